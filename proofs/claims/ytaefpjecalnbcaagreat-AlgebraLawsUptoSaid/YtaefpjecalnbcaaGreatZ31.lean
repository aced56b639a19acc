/- algebra.plain: unknown records fall away in place (PlainOk). No condition but that the meaning lies in blocks of known types. algebra.Plain: a meaning without unknown records, or why there is none. Meanings of at most 2^40 things. darninglaw15.strangers of any meaning whose weight is at most 2^40: how many unknown records it has, and those in it (strM). -/
import Derived.Test.YtaefpjecalnbcaaGreatZ10
import Derived.Test.YtaefpjecalnbcaaGreatZ12
import Derived.Test.YtaefpjecalnbcaaGreatZ15
import Derived.Test.YtaefpjecalnbcaaGreatZ25
import Derived.Test.YtaefpjecalnbcaaGreatZ29
import Derived.Test.YtaefpjecalnbcaaGreatZ30
import Derived.Deep.CutBlock
namespace Go.Proofs.YtaefpjecalnbcaaGreat
open Go.RowKit Go.Shelf
def QV (lo hi d m : Nat) (i : Nat) (w : World) (wv tv sv : Value) (y : Val (M d)) : Prop :=
  if i < m then ValQ (fun _ w u z => MsgQ UNil lo hi d w u z) lo hi w wv tv sv y else ValQ (fun _ w u z => MsgQ UAny lo hi d w u z) lo hi w wv tv sv y
def QS (lo hi d m : Nat) (i : Nat) (w : World) (u : Value) (z : M d) : Prop := if i < m then MsgQ UNil lo hi d w u z else MsgQ UAny lo hi d w u z
theorem ValQ.nilw {lo hi d : Nat} {U : Nat → Nat → World → Value → List (List UInt8) → Prop} (hU : ∀ w w' v l, U lo hi w v l → U lo hi w' v l ∧ U lo hi w' (.slice none 0 0) l) {w w' : World} {wv tv sv : Value} {y : Val (M d)} (h : ValQ (fun _ w u z => MsgQ U lo hi d w u z) lo hi w wv tv sv y) (hw : NilW lo w w') :
    ValQ (fun _ w u z => MsgQ U lo hi d w u z) lo hi w' wv tv sv y :=
  ⟨h.1, h.2.1.nil hw, h.2.2.1.nil hw, h.2.2.2.nil hw fun _ a b z _ hz => MsgQ.nil hU d w w' a b z hz hw⟩
theorem qv_nil {lo hi d m : Nat} {w w' : World} {v : Value} {l : List (Val (M d))} (h : ValsQ (QV lo hi d m) lo hi w v l) (hw : NilW lo w w') : ValsQ (QV lo hi d m) lo hi w' v l :=
  h.nil hw fun i wv tv sv x _ hx => by
    unfold QV at hx ⊢
    split
    · rename_i hi; rw [if_pos hi] at hx; exact hx.nilw (unil_nil lo _) hw
    · rename_i hi; rw [if_neg hi] at hx; exact hx.nilw (uany_nil lo _) hw
theorem qs_nil {lo hi d m : Nat} {w w' : World} {v : Value} {l : List (M d)} (h : SubsQ (QS lo hi d m) lo hi w v l) (hw : NilW lo w w') : SubsQ (QS lo hi d m) lo hi w' v l :=
  h.nil hw fun i a b x _ hx => by
    unfold QS at hx ⊢
    by_cases hi' : i < m
    · rw [if_pos hi'] at hx; rw [if_pos hi', if_pos hi']; exact MsgQ.nil (unil_nil lo hi) d w w' a b x hx hw
    · rw [if_neg hi'] at hx; rw [if_neg hi', if_neg hi']; exact MsgQ.nil (uany_nil lo hi) d w w' a b x hx hw
theorem qv_start {lo hi d : Nat} {w : World} {v : Value} {l : List (Val (M d))} (h : ValsQ (fun _ w wv tv sv y => ValQ (fun _ w u z => MsgQ UAny lo hi d w u z) lo hi w wv tv sv y) lo hi w v l) : ValsQ (QV lo hi d 0) lo hi w v l :=
  h.agree (fun _ _ _ => rfl) fun i _ _ _ _ _ hx => by unfold QV; rw [if_neg (by omega)]; exact hx
theorem qs_start {lo hi d : Nat} {w : World} {v : Value} {l : List (M d)} (h : SubsQ (fun _ w u z => MsgQ UAny lo hi d w u z) lo hi w v l) : SubsQ (QS lo hi d 0) lo hi w v l :=
  h.agree (fun _ _ _ => rfl) fun i _ _ _ _ hx => by unfold QS; rw [if_neg (by omega)]; exact hx
theorem qv_all {lo hi d m : Nat} {w : World} {v : Value} {l : List (Val (M d))} (h : ValsQ (QV lo hi d m) lo hi w v l) (hm : l.length ≤ m) : ValsQ (fun _ w wv tv sv y => ValQ (fun _ w u z => MsgQ UNil lo hi d w u z) lo hi w wv tv sv y) lo hi w v l :=
  h.agree (fun _ _ _ => rfl) fun i _ _ _ _ hl hx => by
    have := (List.getElem?_eq_some_iff.1 hl).1
    unfold QV at hx; rw [if_pos (by omega)] at hx; exact hx
theorem qs_all {lo hi d m : Nat} {w : World} {v : Value} {l : List (M d)} (h : SubsQ (QS lo hi d m) lo hi w v l) (hm : l.length ≤ m) : SubsQ (fun _ w u z => MsgQ UNil lo hi d w u z) lo hi w v l :=
  h.agree (fun _ _ _ => rfl) fun i _ _ _ hl hx => by
    have := (List.getElem?_eq_some_iff.1 hl).1
    unfold QS at hx; rw [if_pos (by omega)] at hx; exact hx
theorem qv_step {lo hi d m g n c : Nat} {w : World} {l : List (Val (M d))} {cur : Array Value} {sv : Value} {y : Val (M d)} (h : ValsQ (QV lo hi d m) lo hi w (.slice (some ⟨g, 0, none⟩) n c) l) (hg : w.heap[g]? = some (.cells cur 67 (0, 0))) (hs : cur[m * 4 + 3]? = some sv) (hy : l[m]? = some y)
    (hS : SubsQ (fun _ w u z => MsgQ UNil lo hi d w u z) lo hi w sv y.subs) : ValsQ (QV lo hi d (m + 1)) lo hi w (.slice (some ⟨g, 0, none⟩) n c) l := by
  refine ⟨h.1, ?_⟩
  rcases h.2 with ⟨h2, -⟩ | ⟨g', cap, cur', hv, hb, hg', hnc, hcm, hcs, hall⟩
  · cases h2
  · refine .inr ⟨g', cap, cur', hv, hb, hg', hnc, hcm, hcs, fun i x hx => ?_⟩
    obtain ⟨wv, tv, sv', e0, e1, e2, e3, hp⟩ := hall i x hx
    refine ⟨wv, tv, sv', e0, e1, e2, e3, ?_⟩
    unfold QV at hp ⊢
    by_cases him : i = m
    · subst him
      rw [hy] at hx
      cases hx
      obtain rfl : g = g' := by injection hv with h1 _ _; injection h1 with h1; injection h1
      rw [hg] at hg'
      obtain rfl : cur = cur' := by injection hg' with h1; injection h1
      rw [hs] at e3
      cases e3
      rw [if_neg (by omega)] at hp
      rw [if_pos (by omega)]
      exact ⟨hp.1, hp.2.1, hp.2.2.1, hS⟩
    · by_cases hlt : i < m
      · rw [if_pos hlt] at hp; rw [if_pos (by omega)]; exact hp
      · rw [if_neg hlt] at hp; rw [if_neg (by omega)]; exact hp
theorem qs_step {lo hi d m g n c : Nat} {w : World} {l : List (M d)} {cur : Array Value} {c1 c2 : Value} {y : M d} (h : SubsQ (QS lo hi d m) lo hi w (.slice (some ⟨g, 0, none⟩) n c) l) (hg : w.heap[g]? = some (.cells cur 27 (0, 0))) (h1 : cur[m * 2]? = some c1) (h2 : cur[m * 2 + 1]? = some c2) (hy : l[m]? = some y)
    (hS : MsgQ UNil lo hi d w (.agg #[c1, c2]) y) : SubsQ (QS lo hi d (m + 1)) lo hi w (.slice (some ⟨g, 0, none⟩) n c) l := by
  refine ⟨h.1, ?_⟩
  rcases h.2 with ⟨h3, -⟩ | ⟨g', cap, cur', hv, hb, hg', hnc, hcm, hcs, hall⟩
  · cases h3
  · refine .inr ⟨g', cap, cur', hv, hb, hg', hnc, hcm, hcs, fun i x hx => ?_⟩
    obtain ⟨k1, k2, e1, e2, hp⟩ := hall i x hx
    refine ⟨k1, k2, e1, e2, ?_⟩
    unfold QS at hp ⊢
    by_cases him : i = m
    · subst him
      rw [hy] at hx
      cases hx
      obtain rfl : g = g' := by injection hv with h1 _ _; injection h1 with h1; injection h1
      rw [hg] at hg'
      obtain rfl : cur = cur' := by injection hg' with h1; injection h1
      rw [h1] at e1
      rw [h2] at e2
      cases e1
      cases e2
      rw [if_pos (by omega)]
      exact hS
    · by_cases hlt : i < m
      · rw [if_pos hlt] at hp; rw [if_pos (by omega)]; exact hp
      · rw [if_neg hlt] at hp; rw [if_neg (by omega)]; exact hp
theorem cell_cur {w : World} {g j : Nat} {cur : Array Value} {T : TypeId} {u : Value} (h : w.heap[g]? = some (.cells cur T (0, 0))) (hu : cur[j]? = some u) : w.cell? ⟨g, j, none⟩ = some u := by
  unfold World.cell?; rw [h]; simpa using hu
theorem free_cur {w : World} {g j : Nat} {cur : Array Value} {T : TypeId} (h : w.heap[g]? = some (.cells cur T (0, 0))) : w.frozen? ⟨g, j, none⟩ = false := by
  simp [World.frozen?, h]
theorem ValsQ.open {α : Type} {P : Nat → World → Value → Value → Value → Val α → Prop} {lo hi n c i : Nat} {a : Option Addr} {w : World} {l : List (Val α)} {v : Val α} (h : ValsQ P lo hi w (.slice a n c) l) (hv : l[i]? = some v) :
    ∃ g cur wv tv sv, a = some ⟨g, 0, none⟩ ∧ w.heap[g]? = some (.cells cur 67 (0, 0)) ∧ cur[i * 4]? = some (.int .i64 v.num) ∧ cur[i * 4 + 1]? = some wv ∧ cur[i * 4 + 2]? = some tv ∧ cur[i * 4 + 3]? = some sv ∧ P i w wv tv sv v := by
  rcases h.2 with ⟨-, rfl⟩ | ⟨g, cap, cur, hs, -, hg, -, -, -, hall⟩
  · cases hv
  · obtain ⟨wv, tv, sv, e0, e1, e2, e3, hp⟩ := hall i v hv
    injection hs with h1 _ _
    exact ⟨g, cur, wv, tv, sv, h1, hg, e0, e1, e2, e3, hp⟩
theorem SubsQ.open {α : Type} {P : Nat → World → Value → α → Prop} {lo hi n c i : Nat} {a : Option Addr} {w : World} {l : List α} {v : α} (h : SubsQ P lo hi w (.slice a n c) l) (hv : l[i]? = some v) :
    ∃ g cur c1 c2, a = some ⟨g, 0, none⟩ ∧ lo ≤ g ∧ w.heap[g]? = some (.cells cur 27 (0, 0)) ∧ cur[i * 2]? = some c1 ∧ cur[i * 2 + 1]? = some c2 ∧ P i w (.agg #[c1, c2]) v := by
  rcases h.2 with ⟨-, rfl⟩ | ⟨g, cap, cur, hs, hb, hg, -, -, -, hall⟩
  · cases hv
  · obtain ⟨c1, c2, e1, e2, hp⟩ := hall i v hv
    injection hs with h1 _ _
    exact ⟨g, cur, c1, c2, h1, hb.1, hg, e1, e2, hp⟩
theorem SubsQ.form {α : Type} {P : Nat → World → Value → α → Prop} {lo hi : Nat} {w : World} {v : Value} {l : List α} (h : SubsQ P lo hi w v l) : ∃ a c, v = .slice a l.length c := by
  rcases h.2 with ⟨rfl, rfl⟩ | ⟨g, cap, cur, rfl, -⟩
  · exact ⟨none, 0, rfl⟩
  · exact ⟨_, _, rfl⟩
/-- a sub's unknown records fell away: it is stored -/
theorem subs_put {lo hi d k g so n c : Nat} {wr w1 : World} {l : List (M d)} {cur : Array Value} {c1 c2 : Value} {y : M d} (hso : so = 0) (hI : SubsQ (QS lo hi d k) lo hi wr (.slice (some ⟨g, so, none⟩) n c) l) (hy : l[k]? = some y) (hg : wr.heap[g]? = some (.cells cur 27 (0, 0))) (hl : lo ≤ g)
    (e1 : cur[k * 2]? = some c1) (e2 : cur[k * 2 + 1]? = some c2) (hn : NilW lo wr w1) (hM : MsgQ UNil lo hi d w1 (.agg #[c1, .slice none 0 0]) y) :
    NilW lo wr ((w1.setCell ⟨g, so + k * 2, none⟩ c1).setCell ⟨g, so + k * 2 + 1, none⟩ (.slice none 0 0)) ∧ SubsQ (QS lo hi d (k + 1)) lo hi ((w1.setCell ⟨g, so + k * 2, none⟩ c1).setCell ⟨g, so + k * 2 + 1, none⟩ (.slice none 0 0)) (.slice (some ⟨g, so, none⟩) n c) l ∧
      w1.cell? ⟨g, so + k * 2, none⟩ = some c1 ∧ (∃ u, w1.cell? ⟨g, so + k * 2 + 1, none⟩ = some u) ∧ w1.frozen? ⟨g, so + k * 2, none⟩ = false ∧ w1.frozen? ⟨g, so + k * 2 + 1, none⟩ = false ∧ g < w1.heap.size := by
  subst hso
  rw [Nat.zero_add]
  obtain ⟨cur', f1, f2, f3⟩ := hn.msg g cur hg
  have k1 : cur'[k * 2]? = some c1 := by
    rcases f3 _ _ e1 with h | ⟨h, -⟩
    · exact h
    · omega
  obtain ⟨u, k2⟩ : ∃ u, cur'[k * 2 + 1]? = some u := by rcases f3 _ _ e2 with h | ⟨-, h⟩ <;> exact ⟨_, h⟩
  obtain ⟨n1, h1⟩ := (NilW.refl lo w1).set_same g (k * 2) cur' c1 f1 hl k1
  have n2 := n1.set_nil g (k * 2 + 1) cur' h1 hl (by omega)
  obtain ⟨cur2, q1, -, -⟩ := n2.msg g cur' f1
  have hlt := (Array.getElem?_eq_some_iff.1 f1).1
  have z1 : cur2[k * 2]? = some c1 := by
    have a1 : ((w1.setCell ⟨g, k * 2, none⟩ c1).setCell ⟨g, k * 2 + 1, none⟩ (.slice none 0 0)).cell? ⟨g, k * 2, none⟩ = some c1 := by
      rw [World.cell?_setCell_other _ _ _ _ (by simp)]
      exact cell_cur h1 k1
    unfold World.cell? at a1
    rw [q1] at a1
    simpa using a1
  have z2 : cur2[k * 2 + 1]? = some (.slice none 0 0) := by
    obtain ⟨c3, r1, -, r3⟩ := (NilW.refl lo _).set_nil (w' := w1.setCell ⟨g, k * 2, none⟩ c1) g (k * 2 + 1) cur' h1 hl (by omega) |>.msg g cur' h1
    have hb : k * 2 + 1 < cur'.size := (Array.getElem?_eq_some_iff.1 k2).1
    obtain ⟨hlt1, hk1⟩ := Array.getElem?_eq_some_iff.1 h1
    have e : ((w1.setCell ⟨g, k * 2, none⟩ c1).setCell ⟨g, k * 2 + 1, none⟩ (.slice none 0 0)).heap[g]? = some (.cells (cur'.setIfInBounds (k * 2 + 1) (.slice none 0 0)) 27 (0, 0)) := by
      show ((w1.setCell ⟨g, k * 2, none⟩ c1).heap.modify g _)[g]? = _
      rw [Array.getElem?_eq_getElem (by rw [Array.size_modify]; exact hlt1), Array.getElem_modify_self, hk1]
      rfl
    rw [q1] at e
    injection e with e
    injection e with e
    rw [e, Array.getElem?_setIfInBounds_self_of_lt hb]
  exact ⟨hn.trans n2, qs_step (qs_nil hI (hn.trans n2)) q1 z1 z2 hy (MsgQ.nil (unil_nil lo hi) d w1 _ _ _ y hM n2).1, cell_cur f1 k1, ⟨u, cell_cur f1 k2⟩, free_cur f1, free_cur f1, hlt⟩
def PlainOk (d : Nat) : Prop := ∀ (lo hi : Nat) (w : World) (v : Value) (x : M d), lo ≤ w.heap.size → hi ≤ w.heap.size → MsgQ UAny lo hi d w v x →
  Calls Tryz.prog 39 #[v] w fun e w' => ∃ a n c uv, e = .returned (.agg #[.slice a n c, .slice none 0 0]) ∧ v = .agg #[.slice a n c, uv] ∧ NilW lo w w' ∧ MsgQ UNil lo hi d w' (.agg #[.slice a n c, .slice none 0 0]) x
set_option maxRecDepth 100000 in
set_option maxHeartbeats 8000000 in
theorem alg_plain_step (d : Nat) (hrec : PlainOk d) : PlainOk (d + 1) := by
  intro lo hi w v x hlo hhi hx
  have HRE := hid hrec
  obtain ⟨vv, uv, rfl, ⟨ua, un, uc, rfl⟩, hV⟩ := hx
  obtain ⟨va, vc, rfl⟩ : ∃ a c, vv = .slice a (M.vals x).length c := by
    rcases hV.2 with ⟨rfl, h⟩ | ⟨g, cap, cur, rfl, -⟩
    · exact ⟨none, 0, by rw [h]; rfl⟩
    · exact ⟨_, _, rfl⟩
  obtain ⟨vn, HVN⟩ : ∃ n, Hid (n = (M.vals x).length) := ⟨_, rfl⟩
  have hvn : vn ≤ 140737488355328 := by rw [HVN.out]; exact hV.1
  rw [← HVN.out] at hV ⊢
  obtain ⟨X, HX⟩ : ∃ X, Hid (X = w.heap.size) := ⟨_, rfl⟩
  obtain ⟨Q, HQ⟩ : ∃ Q : Ending → World → Prop, Hid (Q = fun e w' => ∃ a n c uv, e = .returned (.agg #[.slice a n c, .slice none 0 0]) ∧ Value.agg #[.slice va vn vc, .slice ua un uc] = .agg #[.slice a n c, uv] ∧ NilW lo w w' ∧ MsgQ UNil lo hi (d + 1) w' (.agg #[.slice a n c, .slice none 0 0]) x) := ⟨_, rfl⟩
  rw [← HQ.out]
  obtain ⟨W0, HW0⟩ : ∃ W, Hid (W = (w.alloc (.cells #[.slice va vn vc, .slice ua un uc] 27)).alloc (.cells #[.slice none 0 0, .slice none 0 0] 27)) := ⟨_, rfl⟩
  have hb0 : Below w.heap.size w W0 := by rw [HW0.out]; (repeat (first | with_reducible exact Below.refl _ _ | with_reducible refine Below.setCell ?_ (by first | omega | (simp; omega) | (simp; done)) _ | with_reducible refine Below.alloc ?_ (by first | omega | (simp; omega) | (simp; done)) _ | with_reducible refine below_drewN ?_ _ | with_reducible refine Below.drew ?_))
  have hk0 : Blk W0 X [.slice va vn vc, .slice ua un uc] 27 := by rw [HW0.out, HX.out]; exact (Blk.new w [.slice va vn vc, .slice ua un uc] _).alloc _
  have hk1 : Blk W0 (X + 1) [.slice none 0 0, .slice none 0 0] 27 := by rw [HW0.out, HX.out]; exact Blk.new' _ [.slice none 0 0, .slice none 0 0] _ _ (by simp)
  obtain ⟨W1, HW1⟩ : ∃ W, Hid (W = W0.setCell ⟨X, 1, none⟩ (.slice none 0 0)) := ⟨_, rfl⟩
  have hx1 : Blk W1 X [.slice va vn vc, .slice none 0 0] 27 := by rw [HW1.out]; exact hk0.set 1 _
  have hr1 : Blk W1 (X + 1) [.slice none 0 0, .slice none 0 0] 27 := by rw [HW1.out]; exact hk1.set_other _ _ (by show X + 1 ≠ X; omega)
  have hn1 : NilW lo w W1 := by rw [HW1.out]; exact (NilW.of_below hb0 hlo).set_new hlo _ _ (by rw [HX.out]; exact Nat.le_refl _)
  have HN1 := hid hn1
  have HV1 := hid (qv_nil (qv_start hV) hn1)
  have HK1 := hid (And.intro hx1 hr1)
  have HLO := hid (And.intro hlo hhi)
  have HFIN : Hid (∀ wr, NilW lo W1 wr → ValsQ (QV lo hi d vn) lo hi wr (.slice va vn vc) (M.vals x) → Q (.returned (.agg #[.slice va vn vc, .slice none 0 0])) ((wr.setCell ⟨X + 1, 0, none⟩ (.slice va vn vc)).setCell ⟨X + 1, 1, none⟩ (.slice none 0 0))) := by
    intro wr hn hv
    rw [HQ.out]
    have h1 := HLO.out
    have h2 := HX.out
    refine ⟨_, _, _, _, rfl, rfl, ((HN1.out.trans hn).set_new h1.1 _ _ (by show w.heap.size ≤ X + 1; omega)).set_new h1.1 _ _ (by show w.heap.size ≤ X + 1; omega), ?_⟩
    refine MsgQ.agree (w := wr) (U := UNil) (fun b hb1 hb2 => ?_) (fun v l h => (unil_nil lo hi _ _ v l h).1) (d + 1) (.agg #[.slice va vn vc, .slice none 0 0]) x ⟨_, _, rfl, rfl, qv_all hv (by rw [← HVN.out]; exact Nat.le_refl _)⟩
    have hne : b ≠ X + 1 := by omega
    rw [Below.heap_setCell _ _ _ b hne, Below.heap_setCell _ _ _ b hne]
  have x1 := hk0.cell 1 _ rfl
  have xf := hk0.free 1
  have xl := hk0.lt
  have y0 := hx1.cell 0 _ rfl
  have yl := hx1.lt
  clear hb0 hk0 hk1 hx1 hr1 hn1 hV hlo hhi hrec HQ
  go_enter Tryz.func39, Tryz.ntmps39
  go_upto_region 1 with fail
  rw [← HW0.out, ← HX.out]
  go_upto_region 2 with fail
  rw [← HW1.out]
  clear x1 xf xl
  go_wp2_with fail
  clear y0 yl
  go_loopw [10] (fun v10 wr => ∃ i : Nat, v10 = .int .i64 (i : Int) ∧ i ≤ vn ∧ Hid (NilW lo W1 wr ∧ ValsQ (QV lo hi d i) lo hi wr (.slice va vn vc) (M.vals x))) (fun v10 _ => vn - (intOf v10).toNat)
  case atStart => exact ⟨0, rfl, by omega, NilW.refl _ _, HV1.out⟩
  case round =>
    obtain ⟨i, rfl, hi', HJ⟩ := hrel
    by_cases hlt : i < vn
    · obtain ⟨v, hv⟩ : ∃ v, (M.vals x)[i]? = some v := ⟨_, List.getElem?_eq_getElem (by rw [← HVN.out]; exact hlt)⟩
      obtain ⟨g, cur, wv, tv, sv, hva, hg, e0, e1, e2, e3, hP⟩ := HJ.out.2.open hv
      unfold QV at hP
      rw [if_neg (by omega)] at hP
      obtain ⟨-, hw, ht, hs⟩ := hP
      obtain ⟨a1, q1, rfl⟩ := WordsOwn.form hw.1
      obtain ⟨a2, q2, rfl⟩ := StrsOwn.form ht.1
      obtain ⟨a4, q4, rfl⟩ := hs.form
      obtain ⟨num, HNUM⟩ : ∃ n, Hid (n = v.num) := ⟨_, rfl⟩
      obtain ⟨n1, HN1'⟩ : ∃ n, Hid (n = v.words.length) := ⟨_, rfl⟩
      obtain ⟨n2, HN2⟩ : ∃ n, Hid (n = v.texts.length) := ⟨_, rfl⟩
      obtain ⟨n3, HN3⟩ : ∃ n, Hid (n = v.subs.length) := ⟨_, rfl⟩
      rw [← HNUM.out] at e0
      rw [← HN1'.out] at e1
      rw [← HN2.out] at e2
      rw [← HN3.out] at e3 hs
      have hn3 : n3 ≤ 140737488355328 := by rw [HN3.out]; exact hs.1
      obtain ⟨o, HO⟩ : ∃ o : Nat, Hid (o = 0) := ⟨0, rfl⟩
      have ha : va = some ⟨g, o, none⟩ := by rw [HO.out]; exact hva
      have g0 : wr.cell? ⟨g, o + i * 4, none⟩ = some (.int .i64 num) := by rw [HO.out, Nat.zero_add]; exact cell_cur hg e0
      have g1 : wr.cell? ⟨g, o + i * 4 + 1, none⟩ = some (.slice a1 n1 q1) := by rw [HO.out, Nat.zero_add]; exact cell_cur hg e1
      have g2 : wr.cell? ⟨g, o + i * 4 + 2, none⟩ = some (.slice a2 n2 q2) := by rw [HO.out, Nat.zero_add]; exact cell_cur hg e2
      have g3 : wr.cell? ⟨g, o + i * 4 + 3, none⟩ = some (.slice a4 n3 q4) := by rw [HO.out, Nat.zero_add]; exact cell_cur hg e3
      have hix := index_run Tryz.underlying24 size_val ha i hlt (cap := vc)
      have hbl := World.block_lt_of_cell? wr _ g0
      obtain ⟨Y, HY⟩ : ∃ Y, Hid (Y = wr.heap.size) := ⟨_, rfl⟩
      obtain ⟨W6, HW6⟩ : ∃ W6, Hid (W6 = wr.alloc (.cells #[.int .i64 num, .slice a1 n1 q1, .slice a2 n2 q2, .slice a4 n3 q4] 67)) := ⟨_, rfl⟩
      have hb6 : Below wr.heap.size wr W6 := by rw [HW6.out]; exact (Below.refl _ _).alloc (Nat.le_refl _) _
      have hv6 : Blk W6 Y [.int .i64 num, .slice a1 n1 q1, .slice a2 n2 q2, .slice a4 n3 q4] 67 := by rw [HW6.out, HY.out]; exact Blk.new wr [.int .i64 num, .slice a1 n1 q1, .slice a2 n2 q2, .slice a4 n3 q4] _
      have HLW : Hid (lo ≤ wr.heap.size ∧ hi ≤ wr.heap.size) := ⟨Nat.le_trans HLO.out.1 (Nat.le_trans HN1.out.size HJ.out.1.size), Nat.le_trans HLO.out.2 (Nat.le_trans HN1.out.size HJ.out.1.size)⟩
      have HN6 := hid (NilW.of_below hb6 HLW.out.1)
      have HS6 := hid (qs_nil (qs_start hs) HN6.out)
      have HV6 := hid hv6
      have HG := hid (And.intro hg e3)
      have HVV := hid hv
      have HVA := hid hva
      have d3 := hv6.cell 3 _ rfl
      have dl := hv6.lt
      clear hw ht hs hv e0 e1 e2 e3 hb6 hv6 hg hva ha
      go_upto_region 5 with fail
      rw [← HW6.out, ← HY.out]
      clear g0 g1 g2 g3 hix hbl
      go_wp2_with fail
      obtain ⟨w5, hw5⟩ : ∃ u, u = wr := ⟨_, rfl⟩
      rw [← hw5] at HJ HY HW6 HLW HN6 HG
      clear hw5 d3 dl
      go_loopw [17] (fun v17 wr => ∃ k : Nat, v17 = .int .i64 (k : Int) ∧ k ≤ n3 ∧ Hid (NilW lo W6 wr ∧ SubsQ (QS lo hi d k) lo hi wr (.slice a4 n3 q4) v.subs)) (fun v17 _ => n3 - (intOf v17).toNat)
      case atStart => exact ⟨0, rfl, by omega, NilW.refl _ _, HS6.out⟩
      case round =>
        obtain ⟨k, rfl, hk, HI⟩ := hrel
        by_cases hlk : k < n3
        · obtain ⟨y, hy⟩ : ∃ y, v.subs[k]? = some y := ⟨_, List.getElem?_eq_getElem (by rw [← HN3.out]; exact hlk)⟩
          obtain ⟨sg, scur, c1, c2, hsa0, hsl, hsg, e1, e2, hp⟩ := HI.out.2.open hy
          unfold QS at hp
          rw [if_neg (by omega)] at hp
          obtain ⟨m1, k1, r1, m2, k2, r2, hf⟩ := hp.form
          obtain ⟨rfl, rfl⟩ : c1 = .slice m1 k1 r1 ∧ c2 = .slice m2 k2 r2 := by cases hf; exact ⟨rfl, rfl⟩
          obtain ⟨so, HSO⟩ : ∃ o : Nat, Hid (o = 0) := ⟨0, rfl⟩
          have hsa : a4 = some ⟨sg, so, none⟩ := by rw [HSO.out]; exact hsa0
          have s0 : wr.cell? ⟨sg, so + k * 2, none⟩ = some (.slice m1 k1 r1) := by rw [HSO.out, Nat.zero_add]; exact cell_cur hsg e1
          have s1 : wr.cell? ⟨sg, so + k * 2 + 1, none⟩ = some (.slice m2 k2 r2) := by rw [HSO.out, Nat.zero_add]; exact cell_cur hsg e2
          have hixs := index_run Tryz.underlying65 size_msg hsa k hlk (cap := q4)
          have hvb : Blk wr Y [.int .i64 num, .slice a1 n1 q1, .slice a2 n2 q2, .slice a4 n3 q4] 67 := HI.out.1.blk HV6.out (by decide)
          have hd3 := hvb.cell 3 _ rfl
          have HVB := hid hvb
          have HSZ : Hid (lo ≤ wr.heap.size ∧ hi ≤ wr.heap.size) := ⟨Nat.le_trans HLW.out.1 (Nat.le_trans HN6.out.size HI.out.1.size), Nat.le_trans HLW.out.2 (Nat.le_trans HN6.out.size HI.out.1.size)⟩
          have HC := hid (HRE.out lo hi wr.drew _ y HSZ.out.1 HSZ.out.2 (MsgQ.agree (w := wr) (w' := wr.drew) (fun _ _ _ => rfl) (fun _ _ h => h) d _ y hp))
          have HSG := hid (And.intro hsg (And.intro e1 e2))
          have HSL := hid hsl
          have HYY := hid hy
          have HII : Hid (SubsQ (QS lo hi d k) lo hi wr (.slice (some ⟨sg, so, none⟩) n3 q4) v.subs) := by rw [← hsa]; exact HI.out.2
          have hq : wr.drew.cell? ⟨Y, 3, none⟩ = some (.slice a4 n3 q4) := hd3
          have hx : wr.drew.cell? ⟨sg, so + k * 2, none⟩ = some (.slice m1 k1 r1) ∧ wr.drew.cell? ⟨sg, so + k * 2 + 1, none⟩ = some (.slice m2 k2 r2) := ⟨s0, s1⟩
          have HQX := hid (And.intro hq hx)
          have HSA := hid hsa
          clear hsa hp hf hsg e1 e2 hsa0 hsl hvb hd3 s0 s1 hy hq hx
          go_upto_region 8 with fail
          refine wp_region_perm (fun w' => w'.cell? ⟨Y, 3, none⟩ = some (.slice a4 n3 q4)) (fun w' => w'.cell? ⟨sg, so + k * 2, none⟩ = some (.slice m1 k1 r1) ∧ w'.cell? ⟨sg, so + k * 2 + 1, none⟩ = some (.slice m2 k2 r2)) 8 [(0, 0), (1, 0), (2, 0), (3, 0), (4, 0), (5, 0), (6, 0), (7, 1), (8, 2), (9, 0), (10, 2)] (by kernel_rfl) rfl rfl (by kernel_rfl) (fun _ _ dst _ _ h => by cases dst <;> exact h) HQX.out.1 HQX.out.2 (fun OPS _ => ?_)
          simp only [List.map_cons, List.map_nil, List.filterMap_cons, List.filterMap_nil, List.getElem?_cons_succ, List.getElem?_cons_zero]
          refine seqG0 (v := ?v0) ?hy0 ?hr0
          case hy0 => (intro w hw; go_simp; all_goals rfl)
          simp only [Act.put, List.setIfInBounds_toArray, List.set_cons_zero, List.set_cons_succ]
          refine seqG0 (v := ?v1) ?hy1 ?hr1
          case hy1 => (intro w hw; go_simp; all_goals rfl)
          simp only [Act.put, List.setIfInBounds_toArray, List.set_cons_zero, List.set_cons_succ]
          refine seqG0 (v := ?v2) ?hy2 ?hr2
          case hy2 => (intro w hw; go_simp; all_goals rfl)
          simp only [Act.put, List.setIfInBounds_toArray, List.set_cons_zero, List.set_cons_succ]
          refine seqG0 (v := ?v3) ?hy3 ?hr3
          case hy3 => (intro w hw; go_simp; all_goals rfl)
          simp only [Act.put, List.setIfInBounds_toArray, List.set_cons_zero, List.set_cons_succ]
          refine seqG0 (v := ?v4) ?hy4 ?hr4
          case hy4 => (intro w hw; go_simp; all_goals rfl)
          simp only [Act.put, List.setIfInBounds_toArray, List.set_cons_zero, List.set_cons_succ]
          refine seqG0 (v := ?v5) ?hy5 ?hr5
          case hy5 => (intro w hw; go_simp; all_goals rfl)
          simp only [Act.put, List.setIfInBounds_toArray, List.set_cons_zero, List.set_cons_succ]
          refine seqG0 (v := ?v6) ?hy6 ?hr6
          case hy6 => (intro w hw; go_simp; all_goals rfl)
          simp only [Act.put, List.setIfInBounds_toArray, List.set_cons_zero, List.set_cons_succ]
          refine seqG1 (v := ?v7) ?hy7 ?hr7
          case hy7 => (intro w hw; go_simp; all_goals rfl)
          simp only [Act.put, List.setIfInBounds_toArray, List.set_cons_zero, List.set_cons_succ]
          refine seqG2 (fun K12 HK12 => ?_)
          go_wp2_with fail
          refine HC.out.mono ?_
          rintro e w10 ⟨p1, p1n, p1c, puv, rfl, hpe, hn10, hM10⟩
          obtain ⟨rfl, rfl, rfl⟩ : m1 = p1 ∧ k1 = p1n ∧ r1 = p1c := by cases hpe; exact ⟨rfl, rfl, rfl⟩
          clear hpe
          have hn10' : NilW lo wr w10 := (NilW.refl lo wr).drew.trans hn10
          obtain ⟨hN12, hS12, z0, ⟨u2, z1⟩, f0, f1, zl⟩ := subs_put HSO.out HII.out HYY.out HSG.out.1 HSL.out HSG.out.2.1 HSG.out.2.2 hn10' hM10
          have hV10 : w10.cell? ⟨Y, 3, none⟩ = some (.slice a4 n3 q4) := (hn10'.blk HVB.out (by decide)).cell 3 _ rfl
          obtain ⟨W12, HW12⟩ : ∃ W, Hid (W = (w10.setCell ⟨sg, so + k * 2, none⟩ (.slice m1 k1 r1)).setCell ⟨sg, so + k * 2 + 1, none⟩ (.slice none 0 0)) := ⟨_, rfl⟩
          rw [← HW12.out] at hN12 hS12
          have hV12 : W12.cell? ⟨Y, 3, none⟩ = some (.slice a4 n3 q4) := (hN12.blk HVB.out (by decide)).cell 3 _ rfl
          have HN12 := hid hN12
          have HS12 := hid hS12
          have HV12 := hid hV12
          clear hN12 hS12 hV12 hn10 hM10 hn10'
          go_wp2_with fail
          refine HK12.out _ _ hV10 ?_
          clear HK12 K12
          intro _
          refine seqG0 (v := ?v30) ?hy30 ?hr30
          case hy30 => (intro w hw; go_simp; all_goals rfl)
          simp only [Act.put, List.setIfInBounds_toArray, List.set_cons_zero, List.set_cons_succ]
          refine seqG2 (fun K12 HK12 => ?_)
          go_wp2_with fail
          rw [← HW12.out]
          refine HK12.out _ _ HV12.out ?_
          clear HK12 K12 z0 z1 f0 f1 zl hV10
          intro _
          refine seqG_end ?_
          go_wp2_with fail
          go_roundw
          case rel => exact ⟨k + 1, by go_num, hlk, HI.out.1.trans HN12.out, by rw [HSA.out]; exact HS12.out⟩
          case measure => simp [intOf]; omega
        · obtain rfl : k = n3 := by omega
          have hn5 : NilW lo w5 wr := HN6.out.trans HI.out.1
          have hS := qs_all HI.out.2 (by rw [← HN3.out]; exact Nat.le_refl _)
          have hO := qv_nil HJ.out.2 hn5
          have hgr : wr.heap[g]? = some (.cells cur 67 (0, 0)) := hn5.other g _ HG.out.1 (fun c e => absurd (show (67 : TypeId) = 27 by injection e) (by decide))
          have HO2 : Hid (ValsQ (QV lo hi d (i + 1)) lo hi wr (.slice va vn vc) (M.vals x)) := by
            have h2 := HVA.out
            show ValsQ _ _ _ _ _ _
            rw [h2] at hO ⊢
            exact qv_step hO hgr HG.out.2 HVV.out hS
          have HN5 := hid (HJ.out.1.trans hn5)
          clear hn5 hS hO hgr
          go_wp2_with fail
          go_roundw
          case rel => exact ⟨i + 1, by go_num, hlt, HN5.out, HO2.out⟩
          case measure => simp [intOf]; omega
    · obtain rfl : i = vn := by omega
      have hk := HJ.out.1.blk_nil HK1.out.1
      have hr := HJ.out.1.blk_nil HK1.out.2
      have k0 := hk.cell 0 _ rfl
      have k1 := hk.cell 1 _ rfl
      have kl := hk.lt
      have r0 := hr.cell 0 _ rfl
      have r1 := hr.cell 1 _ rfl
      have rl := hr.lt
      have f0 := hr.free 0
      have s1 := hr.set 0 (.slice va i vc)
      have r2 := s1.cell 1 _ rfl
      have f2 := s1.free 1
      have s2 := s1.set 1 (.slice none 0 0)
      have r3 := s2.cell 0 _ rfl
      have r4 := s2.cell 1 _ rfl
      have HE := hid (HFIN.out wr HJ.out.1 HJ.out.2)
      clear hk hr s1 s2
      go_wp2_with fail
      refine bodyPost_ret (v := .agg #[.slice va i vc, .slice none 0 0]) ?_ rfl HE.out
      simp [results, Tryz.results39, go_sem, r3, r4]
theorem alg_plain : ∀ d, PlainOk d
  | 0 => fun _ _ _ _ x _ _ _ => x.elim
  | d + 1 => alg_plain_step d (alg_plain d)
end Go.Proofs.YtaefpjecalnbcaaGreat
namespace Go.Proofs.YtaefpjecalnbcaaGreat
open Go.RowKit Go.Shelf
/-- the answer: a code, or a meaning without unknown records -/
def PlainPost (w : World) (d : Nat) (code : Nat) (x : M d) (e : Ending) (w' : World) : Prop := Below w.heap.size w w' ∧ (code ≠ 0 → e = .returned (.tuple #[.agg #[.slice none 0 0, .slice none 0 0], .int .u8 (code : Int)])) ∧
  (code = 0 → ∃ a n c, e = .returned (.tuple #[.agg #[.slice a n c, .slice none 0 0], .int .u8 0]) ∧ MsgAt d w' (.agg #[.slice a n c, .slice none 0 0]) (plainM d x))
set_option maxRecDepth 100000 in
set_option maxHeartbeats 8000000 in
theorem alg_Plain {w : World} {sv v : Value} {s : List Mes} {d : Nat} {x : M d} (hS : SchemaAt w sv s) (root : Int) (hx : MsgAt d w v x) (hwx : mwt d x ≤ 1099511627776) :
    Calls Tryz.prog 18 #[sv, .int .i64 root, v] w (PlainPost w d (mayAll s root [rightB s d root x]) x) := by
  obtain ⟨a1, n1, c1, a2, n2, c2, rfl⟩ := hx.form
  obtain ⟨X, HX⟩ : ∃ X, Hid (X = w.heap.size) := ⟨_, rfl⟩
  have hS2 := hS
  obtain ⟨-, sa, sc, rfl, -⟩ := hS2.open
  obtain ⟨sn, HSN⟩ : ∃ n, Hid (n = s.length) := ⟨_, rfl⟩
  rw [← HSN.out] at hS hS2 ⊢
  obtain ⟨W1, HW1⟩ : ∃ W, Hid (W = (w.alloc (.cells #[.slice a1 n1 c1, .slice a2 n2 c2] 27)).alloc (.cells #[.slice none 0 0, .slice none 0 0] 27)) := ⟨_, rfl⟩
  have hx1 : Blk W1 X [.slice a1 n1 c1, .slice a2 n2 c2] 27 := by rw [HW1.out, HX.out]; exact (Blk.new w [.slice a1 n1 c1, .slice a2 n2 c2] _).alloc _
  have hr1 : Blk W1 (X + 1) [.slice none 0 0, .slice none 0 0] 27 := by rw [HW1.out, HX.out]; exact Blk.new' _ [.slice none 0 0, .slice none 0 0] _ _ (by simp)
  have hb1 : Below w.heap.size w W1 := by rw [HW1.out]; (repeat (first | with_reducible exact Below.refl _ _ | with_reducible refine Below.setCell ?_ (by first | omega | (simp; omega) | (simp; done)) _ | with_reducible refine Below.alloc ?_ (by first | omega | (simp; omega) | (simp; done)) _ | with_reducible refine below_drewN ?_ _ | with_reducible refine Below.drew ?_))
  obtain ⟨W2, HW2⟩ : ∃ W, Hid (W = W1.alloc (.cells #[.slice a1 n1 c1, .slice a2 n2 c2] 27)) := ⟨_, rfl⟩
  obtain ⟨G, HG⟩ : ∃ G, Hid (G = W1.heap.size) := ⟨_, rfl⟩
  have hb12 : Below W1.heap.size W1 W2 := by rw [HW2.out]; exact (Below.refl _ _).alloc (Nat.le_refl _) _
  have hg2 : Blk W2 G [.slice a1 n1 c1, .slice a2 n2 c2] 27 := by rw [HW2.out, HG.out]; exact Blk.new W1 [.slice a1 n1 c1, .slice a2 n2 c2] _
  have hb2 := hb1.trans (hb12.mono hb1.size)
  obtain ⟨code, HC⟩ : ∃ c, Hid (c = mayAll s root [rightB s d root x]) := ⟨_, rfl⟩
  have HMAY := hid (alg_may (hS.below hb2) root (may_one (s := s) (root := root) hg2 (hx.below hb2) hwx) (n := 1) (c := 1) rfl (by decide))
  rw [← HC.out] at HMAY ⊢
  have hc12 : code ≤ 12 := by rw [HC.out]; exact may_small _ _ _
  have HB2 := hid hb2
  have HXB := hid (And.intro (hx1.below hb12) (hr1.below hb12))
  have HXM := hid hx
  have HWT := hid hwx
  obtain ⟨Q, HQ⟩ : ∃ Q : Ending → World → Prop, Hid (Q = PlainPost w d code x) := ⟨_, rfl⟩
  rw [← HQ.out]
  have k0 := hx1.cell 0 _ rfl
  have k1 := hx1.cell 1 _ rfl
  have kl := hx1.lt
  clear hx1 hr1 hb1 hb12 hg2 hb2 hS hS2 hx hwx
  go_enter Tryz.func18, Tryz.ntmps18
  go_upto_region 1 with fail
  rw [← HW1.out, ← HX.out]
  go_wp2_with fail
  rw [← HW2.out, ← HG.out]
  refine HMAY.out.mono ?_
  rintro e w3 ⟨rfl, hb3⟩
  have HB3 := hid (HB2.out.trans (hb3.mono HB2.out.size))
  have HX3 := hid (And.intro (HXB.out.1.below hb3) (HXB.out.2.below hb3))
  clear k0 k1 kl
  have k0 := HX3.out.1.cell 0 _ rfl
  have k1 := HX3.out.1.cell 1 _ rfl
  have kl := HX3.out.1.lt
  clear hb3 HMAY HXB
  by_cases h0 : code = 0
  · subst h0
    have HP := hid (tree_CopyQ (w0 := w) w3.heap.size d w3 _ x (Nat.le_refl _) HB3.out HXM.out HWT.out)
    clear HC hc12
    go_wp2_with fail
    refine HP.out.mono ?_
    rintro e w5 ⟨v5, rfl, hb5, hap5⟩
    have hM5 := hap5.here
    obtain ⟨p1, q1, o1, p2, q2, o2, rfl⟩ := hM5.form
    have HPL := hid (alg_plain d w3.heap.size w5.heap.size w5 _ x hb5.size (Nat.le_refl _) hM5)
    have HB5 := hid (HB3.out.trans (hb5.mono HB3.out.size))
    have HR5 := hid (HX3.out.2.below hb5)
    have hl3 := HX3.out.2.lt
    have hs35 := hb5.size
    clear hb5 hap5 hM5 k0 k1 kl
    go_wp2_with fail
    refine HPL.out.mono ?_
    rintro e w6 ⟨s1, t1, u1, su, rfl, -, hn6, hM6⟩
    have hr6 := hn6.blk_nil HR5.out
    have hb6 : Below w.heap.size w w6 := HB5.out.trans (hn6.to_below HB3.out.size)
    have r0 := hr6.cell 0 _ rfl
    have r1 := hr6.cell 1 _ rfl
    have f0 := hr6.free 0
    have f1 := hr6.free 1
    have rl := hr6.lt
    have z1 := hr6.set 0 (.slice s1 t1 u1)
    have z2 := z1.set 1 (.slice none 0 0)
    have q0 := z2.cell 0 _ rfl
    have q1' := z2.cell 1 _ rfl
    have HE : Hid (Q (.returned (.tuple #[.agg #[.slice s1 t1 u1, .slice none 0 0], .int .u8 0])) ((w6.setCell ⟨X + 1, 0, none⟩ (.slice s1 t1 u1)).setCell ⟨X + 1, 1, none⟩ (.slice none 0 0))) := by
      rw [HQ.out]
      refine ⟨(hb6.setCell (by rw [HX.out]; show w.heap.size ≤ w.heap.size + 1; omega) _).setCell (by rw [HX.out]; show w.heap.size ≤ w.heap.size + 1; omega) _, fun h => absurd rfl h, fun _ => ⟨_, _, _, rfl, MsgQ.plain (lo := w3.heap.size) (hi := w5.heap.size) d _ _ x ?_⟩⟩
      refine MsgQ.agree (w := w6) (U := UNil) (fun b hb1 hb2 => ?_) (fun v l h => (unil_nil _ _ _ _ v l h).1) d _ x hM6
      have hne : b ≠ X + 1 := by omega
      rw [Below.heap_setCell _ _ _ b hne, Below.heap_setCell _ _ _ b hne]
    clear hr6 z1 z2 hM6 hn6 hb6 HPL HP hl3 hs35
    go_wp2_with fail
    refine bodyPost_ret (v := .tuple #[.agg #[.slice s1 t1 u1, .slice none 0 0], .int .u8 0]) ?_ rfl HE.out
    simp [results, Tryz.results18, go_sem, q0, q1']
  · have hne : ((code : Int) != 0) = true := by simpa using h0
    have hr3 := HX3.out.2
    have r0 := hr3.cell 0 _ rfl
    have r1 := hr3.cell 1 _ rfl
    have f0 := hr3.free 0
    have f1 := hr3.free 1
    have rl := hr3.lt
    have z1 := hr3.set 0 (.slice none 0 0)
    have z2 := z1.set 1 (.slice none 0 0)
    have q0 := z2.cell 0 _ rfl
    have q1' := z2.cell 1 _ rfl
    have HE : Hid (Q (.returned (.tuple #[.agg #[.slice none 0 0, .slice none 0 0], .int .u8 (code : Int)])) ((w3.setCell ⟨X + 1, 0, none⟩ (.slice none 0 0)).setCell ⟨X + 1, 1, none⟩ (.slice none 0 0))) := by
      rw [HQ.out]
      exact ⟨(HB3.out.setCell (by rw [HX.out]; show w.heap.size ≤ w.heap.size + 1; omega) _).setCell (by rw [HX.out]; show w.heap.size ≤ w.heap.size + 1; omega) _, fun _ => rfl, fun h => absurd h h0⟩
    clear hr3 z1 z2 HX3 HC h0
    go_wp2_with fail
    refine bodyPost_ret (v := .tuple #[.agg #[.slice none 0 0, .slice none 0 0], .int .u8 (code : Int)]) ?_ rfl HE.out
    simp [results, Tryz.results18, go_sem, q0, q1']
end Go.Proofs.YtaefpjecalnbcaaGreat
namespace Go.Proofs.YtaefpjecalnbcaaGreat
open Go.RowKit
def strM : (d : Nat) → M d → Nat
  | 0, _ => 0
  | d + 1, x => (M.unk x).length + ((M.vals x).map fun v => (v.subs.map (strM d)).sum).sum
def strgV (d : Nat) (v : Val (M d)) : Nat := (v.subs.map (strM d)).sum
theorem sum_map_le {α : Type} {f g : α → Nat} : ∀ (l : List α), (∀ x ∈ l, f x ≤ g x) → (l.map f).sum ≤ (l.map g).sum
  | [], _ => Nat.le_refl _
  | x :: r, h => by
    rw [List.map_cons, List.map_cons, List.sum_cons, List.sum_cons]
    exact Nat.add_le_add (h x (by simp)) (sum_map_le r fun y hy => h y (by simp [hy]))
theorem strM_le : ∀ (d : Nat) (x : M d), strM d x ≤ mwt d x
  | 0, _ => Nat.le_refl _
  | d + 1, x => by
    have h1 : (M.unk x).length ≤ twt (M.unk x) := by
      unfold twt
      generalize M.unk x = l
      induction l with
      | nil => simp
      | cons t l ih => simp; omega
    have h2 : ((M.vals x).map (strgV d)).sum ≤ ((M.vals x).map (vwt (mwt d))).sum := sum_map_le _ fun v _ => by
      have := sum_map_le (f := strM d) (g := mwt d) v.subs fun y _ => strM_le d y
      unfold strgV vwt
      omega
    show (M.unk x).length + ((M.vals x).map (strgV d)).sum ≤ 1 + twt (M.unk x) + ((M.vals x).map (vwt (mwt d))).sum
    omega
def StrOk (d : Nat) : Prop := ∀ (w : World) (v : Value) (x : M d), MsgAt d w v x → mwt d x ≤ 1099511627776 →
  Calls Tryz.prog 24 #[v] w fun e w' => e = .returned (.int .i64 (strM d x)) ∧ Below w.heap.size w w'
set_option maxRecDepth 100000 in
set_option maxHeartbeats 4000000 in
theorem law15_strangers : ∀ (d : Nat), StrOk d := by
  intro d
  induction d with
  | zero => exact fun _ _ _ h _ => h.elim
  | succ d ih =>
    intro w v x h hw
    have hsm := Nat.le_trans (strM_le (d + 1) x) hw
    obtain ⟨vv, uv, rfl, hS, hT⟩ := h
    obtain ⟨-, ta, tc, rfl, -, -⟩ := hT.open
    obtain ⟨hsl, sa, sc, rfl, -, hsa⟩ := hS.open
    obtain ⟨tn, HTN⟩ : ∃ n, Hid (n = (M.unk x).length) := ⟨_, rfl⟩
    obtain ⟨sn, HSN⟩ : ∃ n, Hid (n = (M.vals x).length) := ⟨_, rfl⟩
    have HV : Hid (1 + twt (M.unk x) + ((M.vals x).map (vwt (mwt d))).sum ≤ 1099511627776) := hw
    obtain ⟨R, HR⟩ : ∃ R, Hid (R = tn + ((M.vals x).map (strgV d)).sum) := ⟨_, rfl⟩
    have hRx : strM (d + 1) x = R := by rw [HR.out, HTN.out]; rfl
    have hRB : R ≤ 1099511627776 := by omega
    rw [hRx]
    rw [← HTN.out]
    rw [← HSN.out] at hsl ⊢
    have HSA := hid hsa
    have HIH := hid ih
    obtain ⟨vs, HVS⟩ : ∃ vs, Hid (vs = M.vals x) := ⟨_, rfl⟩
    rw [← HVS.out] at HSN HV HSA HR
    have HRL : Hid (∀ i, tn + ((vs.take i).map (strgV d)).sum ≤ R) := fun i => by
      rw [HR.out]
      have := sum_take_le (strgV d) vs i
      omega
    have htn : tn ≤ 1099511627776 := by have := HRL.out 0; omega
    have HV2 : Hid (((vs.map (vwt (mwt d))).sum) ≤ 1099511627776) := by have := HV.out; show _ ≤ _; omega
    clear hsa ih hT hS hw HVS HTN HV hRx hsm
    clear x
    go_enter Tryz.func24, Tryz.ntmps24
    go_upto_region 1 with fail
    obtain ⟨X, HX⟩ : ∃ X, Hid (X = w.heap.size) := ⟨_, rfl⟩
    obtain ⟨W0, HW0⟩ : ∃ W0, Hid (W0 = w.alloc (.cells #[.slice sa sn sc, .slice ta tn tc] 27)) := ⟨_, rfl⟩
    rw [← HW0.out, ← HX.out]
    have hB0 : Below w.heap.size w W0 := by rw [HW0.out]; exact (Below.refl _ _).alloc (Nat.le_refl _) _
    have HK0 : Hid (Blk W0 X [.slice sa sn sc, .slice ta tn tc] 27) := by rw [HW0.out, HX.out]; exact Blk.new w [.slice sa sn sc, .slice ta tn tc] _
    have HB0 := hid hB0
    clear hB0
    have x0 := HK0.out.cell 0 _ rfl
    have x1 := HK0.out.cell 1 _ rfl
    have xl := HK0.out.lt
    go_wp2_with fail
    clear x0 x1 xl
    go_loopw [3, 4] (fun v3 v4 wq => ∃ (y j : Nat), v3 = .int .i64 y ∧ j ≤ sn ∧ y ≤ 1099511627776 ∧ v4 = .int .i64 j ∧ Hid (y = tn + ((vs.take j).map (strgV d)).sum) ∧ Hid (Below W0.heap.size W0 wq)) (fun _ v4 _ => sn - (intOf v4).toNat)
    case atStart => exact ⟨tn, 0, rfl, by omega, htn, rfl, by simp [Hid], Below.refl _ _⟩
    case round =>
      obtain ⟨y, j, rfl, hj, hy, rfl, HG, HBQ⟩ := hrel
      obtain ⟨wo, rfl⟩ : ∃ wo, wo = wr := ⟨_, rfl⟩
      have hkx := HK0.out.below HBQ.out
      have x0 := hkx.cell 0 _ rfl
      have xl := hkx.lt
      by_cases hls : j < sn
      · have hmi : vs[j]? = some (vs[j]'(by rw [← HSN.out]; exact hls)) := List.getElem?_eq_getElem _
        generalize vs[j]'(by rw [← HSN.out]; exact hls) = m at hmi
        have hsa := HSA.out
        obtain ⟨b, o, v1, v2, v3, ha, g0, g1, g2, g3, hM⟩ := hsa j m hmi
        clear hsa
        have hBq : Below w.heap.size w wo := HB0.out.trans (HBQ.out.mono HB0.out.size)
        have hkr := below_keeps hBq
        have hM' := VMsg.below hM hBq
        obtain ⟨wv, tv, sv, ev, -, -, -, hSu⟩ := hM'
        cases ev
        obtain ⟨hul, ua, uc, e3, -, hua⟩ := hSu.open
        cases e3
        have hg3 := g3
        replace g3 := hkr _ _ g3
        have HGO : Hid (tn + ((vs.take (j + 1)).map (strgV d)).sum = y + (m.subs.map (strM d)).sum) := by
          rw [Hid, sum_take _ _ _ _ hmi, HG.out]; unfold strgV; omega
        have hmw : ∀ z ∈ m.subs, mwt d z ≤ 1099511627776 := fun z hz => by
          have h1 := mem_sum_le (vwt (mwt d)) vs m (List.mem_of_getElem? hmi)
          have h2 := HV2.out
          have h3 := mem_sum_le (mwt d) m.subs z hz
          have h4 : vwt (mwt d) m = 1 + m.words.length + twt m.texts + (m.subs.map (mwt d)).sum := rfl
          omega
        have HMW := hid hmw
        have HUA := hid hua
        have HRM : Hid (y + (m.subs.map (strM d)).sum ≤ R) := by rw [Hid, ← HGO.out]; exact HRL.out _
        obtain ⟨un, HUN⟩ : ∃ n, Hid (n = m.subs.length) := ⟨_, rfl⟩
        rw [← HUN.out] at hul g3
        rw [← HUN.out] at hg3
        have HG3 := hid hg3
        have hix := index_run Tryz.underlying24 size_val ha j hls (cap := sc)
        obtain ⟨us, HUS⟩ : ∃ us, Hid (us = m.subs) := ⟨_, rfl⟩
        rw [← HUS.out] at HUN HUA HMW HGO HRM
        clear ha hkr hM hmi hSu hua hmw HUS g0 g1 g2 g3 hg3 x0 xl hkx
        clear m
        have HBQ2 := hid hBq
        have hgl : b < w.heap.size := World.block_lt_of_cell? w _ HG3.out
        have HGL := hid hgl
        clear hBq hgl
        have hkx := HK0.out.below HBQ.out
        have x0 := hkx.cell 0 _ rfl
        have xl := hkx.lt
        go_wp2_with fail
        clear x0 xl hkx
        go_loopw [3, 5] (fun v3 v5 wz => ∃ (q i : Nat), v3 = .int .i64 q ∧ i ≤ un ∧ q ≤ 1099511627776 ∧ v5 = .int .i64 i ∧ Hid (q = y + ((us.take i).map (strM d)).sum) ∧ Hid (Below wo.heap.size wo wz)) (fun _ v5 _ => un - (intOf v5).toNat)
        case atStart => exact ⟨y, 0, rfl, by omega, by omega, rfl, by simp [Hid], Below.refl _ _⟩
        case round =>
          obtain ⟨q, i, rfl, hi, hq, rfl, HQ, HBZ⟩ := hrel
          have HBW : Hid (Below w.heap.size w wr) := HBQ2.out.trans (HBZ.out.mono HBQ2.out.size)
          have hkx := (HK0.out.below HBQ.out).below HBZ.out
          have x0 := hkx.cell 0 _ rfl
          have xl := hkx.lt
          have g3 := below_keeps HBW.out _ _ HG3.out
          have gl : b < wr.heap.size := Nat.lt_of_lt_of_le HGL.out HBW.out.size
          by_cases hlu : i < un
          · have hzi : us[i]? = some (us[i]'(by rw [← HUN.out]; exact hlu)) := List.getElem?_eq_getElem _
            generalize us[i]'(by rw [← HUN.out]; exact hlu) = z at hzi
            have hua := HUA.out
            obtain ⟨b2, o2, u1, u2, ha2, f0, f1, hZ⟩ := hua i z hzi
            obtain ⟨q1, s1, t1, q2, s2, t2, e3⟩ := hZ.form
            cases e3
            clear hua
            have hkr := below_keeps HBZ.out
            replace f0 := hkr _ _ f0
            replace f1 := hkr _ _ f1
            have HZZ := hid (hZ.below HBZ.out)
            have HZW : Hid (mwt d z ≤ 1099511627776) := HMW.out z (List.mem_of_getElem? hzi)
            have HQ2 : Hid (y + ((us.take (i + 1)).map (strM d)).sum = q + strM d z) := by
              rw [Hid, sum_take _ _ _ _ hzi, HQ.out]; omega
            have hdz : q + strM d z ≤ 1099511627776 := by
              have h1 := sum_take_le (strM d) us (i + 1)
              have h2 := HRM.out
              have h3 := HQ2.out
              omega
            have hix2 := index_run Tryz.underlying65 size_msg ha2 i hlu (cap := uc)
            have hbl2 : b2 < wr.heap.size := World.block_lt_of_cell? wr _ f0
            have HC := hid (HIH.out wr _ z HZZ.out HZW.out)
            clear ha2 hkr hZ hzi
            go_wp2_with fail
            refine HC.out.mono ?_
            rintro e w3 ⟨rfl, hb3⟩
            generalize strM d z = s at *
            have HB3 : Hid (Below wo.heap.size wo w3) := HBZ.out.trans (hb3.mono HBZ.out.size)
            clear hb3 HC
            go_wp2_with fail
            go_roundw
            case rel => exact ⟨q + s, i + 1, by go_num, hlu, hdz, by go_num, HQ2.out.symm, HB3⟩
            case measure => simp [intOf]; omega
          · obtain rfl : i = un := by omega
            go_wp2_with fail
            go_roundw
            case rel =>
              refine ⟨q, j + 1, rfl, hls, hq, by go_num, ?_, ?_⟩
              · have h1 := HQ.out
                rw [HUN.out, List.take_length] at h1
                rw [Hid, HGO.out, h1]
              · exact HBQ.out.trans (HBZ.out.mono HBQ.out.size)
            case measure => simp [intOf]; omega
      · obtain rfl : j = sn := by omega
        go_wp2_with fail
        go_ret
        refine ⟨ret1 (int_eq ?_), HB0.out.trans (HBQ.out.mono HB0.out.size)⟩
        have := HG.out
        rw [HSN.out, List.take_length, ← HR.out] at this
        rw [this]
end Go.Proofs.YtaefpjecalnbcaaGreat
