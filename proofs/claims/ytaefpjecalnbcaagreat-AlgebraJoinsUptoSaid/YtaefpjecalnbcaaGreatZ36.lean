/- Plain laws: two right meanings, joined, are right (right_join). No condition. -/
import Derived.Test.YtaefpjecalnbcaaGreatZ25
import Derived.Test.YtaefpjecalnbcaaGreatZ27
namespace Go.Proofs.YtaefpjecalnbcaaGreat
open Go.RowKit
theorem fits_of {α : Type} {R : Int → α → Bool} {f : Fld} {x : Val α} (h0 : 0 < many x) (h1 : f.rep = false → many x ≤ 1)
    (h : (knumber f.kind = true ∧ x.texts = [] ∧ x.subs = [] ∧ ∀ w ∈ x.words, kcanon f.kind w = w) ∨ (f.kind = 17 ∧ x.words = [] ∧ x.texts = [] ∧ ∀ y ∈ x.subs, R f.of y = true) ∨
     (knumber f.kind = false ∧ f.kind ≠ 17 ∧ (f.kind = 15 ∨ f.kind = 16) ∧ x.words = [] ∧ x.subs = [] ∧ (f.kind = 15 → ∀ t ∈ x.texts, ufirst t = t.length))) : fitsB R f x = true := by
  unfold many at h0 h1
  unfold fitsB
  rw [if_neg (by
    rintro (e | ⟨e, er⟩)
    · omega
    · have := h1 er; omega)]
  rcases h with ⟨hk, ht, hs, hw⟩ | ⟨hk, hw, ht, hs⟩ | ⟨hn, hk, hk2, hw, hs, ht⟩
  · rw [if_pos hk]
    simp only [Bool.and_eq_true, decide_eq_true_eq, List.all_eq_true]
    exact ⟨by rw [ht, hs]; simp, hw⟩
  · rw [if_neg (by rw [hk]; decide), if_pos hk]
    simp only [Bool.and_eq_true, decide_eq_true_eq, List.all_eq_true]
    exact ⟨by rw [hw, ht]; simp, hs⟩
  · rw [if_neg (by rw [hn]; decide), if_neg hk]
    rcases hk2 with hk2 | hk2
    · rw [if_pos hk2]
      simp only [Bool.and_eq_true, decide_eq_true_eq, List.all_eq_true]
      exact ⟨by rw [hw, hs]; simp, ht hk2⟩
    · rw [if_neg (by omega)]
      simp only [Bool.and_eq_true, decide_eq_true_eq]
      exact ⟨hk2, by rw [hw, hs]; simp⟩
theorem fits_both {α : Type} {R : Int → α → Bool} {J : Int → α → α → α} {f : Fld} {w v : Val α} (hw : fitsB R f w = true) (hv : fitsB R f v = true) (hJ : ∀ x y, R f.of x = true → R f.of y = true → R f.of (J f.of x y) = true) : fitsB R f (bothV J f w v) = true := by
  unfold bothV
  by_cases hr : f.rep = true
  · rw [if_pos hr]
    obtain ⟨a0, a1, a2⟩ := fits_cases hw
    obtain ⟨b0, b1, b2⟩ := fits_cases hv
    refine fits_of (by unfold many at a0 ⊢; simp only [List.length_append]; omega) (fun e => by rw [hr] at e; cases e) ?_
    rcases a2 with ⟨hk, ht, hs, hw'⟩ | ⟨hk, hw', ht, hs⟩ | ⟨hn, hk, hk2, hw', hs, ht⟩
    · rcases b2 with ⟨-, gt, gs, gw⟩ | ⟨gk, -⟩ | ⟨gn, -⟩
      · exact .inl ⟨hk, by simp [ht, gt], by simp [hs, gs], fun z hz => (List.mem_append.1 hz).elim (hw' z) (gw z)⟩
      · rw [gk] at hk; exact absurd hk (by decide)
      · rw [gn] at hk; cases hk
    · rcases b2 with ⟨gk, -⟩ | ⟨-, gw, gt, gs⟩ | ⟨-, gk, -⟩
      · rw [hk] at gk; exact absurd gk (by decide)
      · exact .inr (.inl ⟨hk, by simp [hw', gw], by simp [ht, gt], fun z hz => (List.mem_append.1 hz).elim (hs z) (gs z)⟩)
      · exact absurd hk gk
    · rcases b2 with ⟨gk, -⟩ | ⟨gk, -⟩ | ⟨-, -, -, gw, gs, gt⟩
      · rw [hn] at gk; cases gk
      · exact absurd gk hk
      · exact .inr (.inr ⟨hn, hk, hk2, by simp [hw', gw], by simp [hs, gs], fun e z hz => (List.mem_append.1 hz).elim (ht e z) (gt e z)⟩)
  · rw [if_neg hr]
    by_cases hk : f.kind = 17
    · rw [if_pos hk]
      obtain ⟨x, hx, hrx⟩ := fits_sub hw hk (by simpa using hr)
      obtain ⟨y, hy, hry⟩ := fits_sub hv hk (by simpa using hr)
      rw [hx, hy]
      refine fits_of (by simp [many]) (fun _ => by simp [many]) (.inr (.inl ⟨hk, rfl, rfl, fun z hz => ?_⟩))
      simp at hz
      subst hz
      exact hJ x y hrx hry
    · rw [if_neg hk]; exact hv
theorem valsB_of {α : Type} {F : Fld → Val α → Bool} {fs : List Fld} : ∀ {l : List (Val α)} {last : Int}, RiseV l → (∀ v ∈ l, last < v.num ∧ 0 ≤ fieldAt fs v.num ∧ F (fs.getD (fieldAt fs v.num).toNat .zero) v = true) → valsB F fs l last = true
  | [], _, _, _ => rfl
  | x :: r, last, hr, h => by
    obtain ⟨h1, h2⟩ := hr.tail
    obtain ⟨g1, g2, g3⟩ := h x (by simp)
    unfold valsB
    rw [if_neg (by
      rintro (e | e | e)
      · omega
      · omega
      · rw [g3] at e; cases e)]
    exact valsB_of h1 fun v hv => ⟨h2 v hv, (h v (by simp [hv])).2⟩
theorem joinV_mem {α : Type} {g : Val α → Val α → Val α} {a b : List (Val α)} {x : Val α} (h : x ∈ joinV g a b) : x ∈ a ∨ ∃ v ∈ b, x = withV g a v := by
  have key : ∀ (b out : List (Val α)), x ∈ b.foldl (fun out v => putV (withV g a v) out) out → x ∈ out ∨ ∃ v ∈ b, x = withV g a v := by
    intro b
    induction b with
    | nil => intro out h; exact .inl h
    | cons v r ih =>
      intro out h
      rcases ih _ h with h | ⟨u, hu, e⟩
      · rcases putV_mem h with e | h
        · exact .inr ⟨v, by simp, e⟩
        · exact .inl h
      · exact .inr ⟨u, by simp [hu], e⟩
  exact key b a h
theorem right_join (s : List Mes) : ∀ (d : Nat) (root : Int) (a b : M d), rightB s d root a = true → rightB s d root b = true → rightB s d root (joinM s d root a b) = true
  | 0, _, a, _, _, _ => a.elim
  | d + 1, root, a, b, ha, hb => by
    have ha' := ha
    have hb' := hb
    unfold rightB at ha' hb'
    by_cases h0 : root < 0 ∨ (s.length : Int) ≤ root
    · rw [if_pos h0] at ha'; cases ha'
    rw [if_neg h0, Bool.and_eq_true] at ha' hb'
    obtain ⟨oa, pa⟩ := valsOk_of ha'.1
    obtain ⟨ob, pb⟩ := valsOk_of hb'.1
    unfold rightB
    rw [if_neg h0, Bool.and_eq_true]
    refine ⟨?_, ?_⟩
    · show valsB _ _ (joinV (fun w v => bothV (joinM s d) ((s.getD root.toNat .zero).fields.getD (fieldAt (s.getD root.toNat .zero).fields v.num).toNat .zero) w v) (M.vals a) (M.vals b)) 0 = true
      refine valsB_of (joinV_rise _ oa.rise) fun x hx => ?_
      rcases joinV_mem hx with hx | ⟨v, hv, rfl⟩
      · obtain ⟨q0, -, -, q3⟩ := oa.at' x hx
        exact ⟨pa x hx, q0, q3⟩
      · obtain ⟨q0, -, -, q3⟩ := ob.at' v hv
        unfold withV
        cases hg : getV (M.vals a) v.num with
        | none => exact ⟨pb v hv, q0, q3⟩
        | some w =>
          obtain ⟨e, hw⟩ := getV_num hg
          obtain ⟨-, -, -, q4⟩ := oa.at' w hw
          unfold qOf at q3 q4 q0
          rw [e] at q4
          simp only [bothV_num]
          exact ⟨pb v hv, q0, fits_both q4 q3 fun x y hx hy => right_join s d _ x y hx hy⟩
    · show (M.unk a ++ M.unk b).all _ = true
      rw [List.all_append, Bool.and_eq_true]
      exact ⟨ha'.2, hb'.2⟩
end Go.Proofs.YtaefpjecalnbcaaGreat
