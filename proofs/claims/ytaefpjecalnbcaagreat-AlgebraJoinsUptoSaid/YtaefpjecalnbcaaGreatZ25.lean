/- Parts of a proof: texts of the author, merged. No condition of their own. -/
import Derived.Test.YtaefpjecalnbcaaGreatZ23
import Derived.Test.YtaefpjecalnbcaaGreatZ24
import Derived.Deep.CutBlock
namespace Go.Proofs.YtaefpjecalnbcaaGreat
open Go.RowKit
end Go.Proofs.YtaefpjecalnbcaaGreat
namespace Go.Proofs.YtaefpjecalnbcaaGreat
open Go.RowKit
end Go.Proofs.YtaefpjecalnbcaaGreat
namespace Go.Proofs.YtaefpjecalnbcaaGreat
open Go.RowKit
end Go.Proofs.YtaefpjecalnbcaaGreat
namespace Go.Proofs.YtaefpjecalnbcaaGreat
open Go.RowKit
theorem fits_cases {α : Type} {R : Int → α → Bool} {f : Fld} {x : Val α} (h : fitsB R f x = true) :
    0 < many x ∧ (f.rep = false → many x ≤ 1) ∧
    ((knumber f.kind = true ∧ x.texts = [] ∧ x.subs = [] ∧ ∀ w ∈ x.words, kcanon f.kind w = w) ∨ (f.kind = 17 ∧ x.words = [] ∧ x.texts = [] ∧ ∀ y ∈ x.subs, R f.of y = true) ∨
     (knumber f.kind = false ∧ f.kind ≠ 17 ∧ (f.kind = 15 ∨ f.kind = 16) ∧ x.words = [] ∧ x.subs = [] ∧ (f.kind = 15 → ∀ t ∈ x.texts, ufirst t = t.length))) := by
  unfold fitsB at h
  by_cases h0 : x.words.length + x.texts.length + x.subs.length = 0 ∨ 1 < x.words.length + x.texts.length + x.subs.length ∧ f.rep = false
  · rw [if_pos h0] at h; cases h
  rw [if_neg h0] at h
  have hm : many x = x.words.length + x.texts.length + x.subs.length := rfl
  refine ⟨by omega, fun hr => ?_, ?_⟩
  · rw [hm]
    by_cases h1 : 1 < x.words.length + x.texts.length + x.subs.length
    · exact absurd (.inr ⟨h1, hr⟩) h0
    · omega
  by_cases hk : knumber f.kind = true
  · rw [if_pos hk] at h
    simp only [Bool.and_eq_true, decide_eq_true_eq, List.all_eq_true, List.length_eq_zero_iff] at h
    exact .inl ⟨hk, h.1.1, h.1.2, h.2⟩
  · rw [if_neg hk] at h
    by_cases h17 : f.kind = 17
    · rw [if_pos h17] at h
      simp only [Bool.and_eq_true, decide_eq_true_eq, List.all_eq_true, List.length_eq_zero_iff] at h
      exact .inr (.inl ⟨h17, h.1.1, h.1.2, h.2⟩)
    · rw [if_neg h17] at h
      by_cases h15 : f.kind = 15
      · rw [if_pos h15] at h
        simp only [Bool.and_eq_true, decide_eq_true_eq, List.all_eq_true, List.length_eq_zero_iff] at h
        exact .inr (.inr ⟨by simpa using hk, h17, .inl h15, h.1.1, h.1.2, fun _ => h.2⟩)
      · rw [if_neg h15] at h
        simp only [Bool.and_eq_true, decide_eq_true_eq, List.length_eq_zero_iff] at h
        exact .inr (.inr ⟨by simpa using hk, h17, .inr h.1, h.2.1, h.2.2, fun e => absurd e h15⟩)
end Go.Proofs.YtaefpjecalnbcaaGreat
namespace Go.Proofs.YtaefpjecalnbcaaGreat
open Go.RowKit
def qOf {α : Type} (fs : List Fld) (v : Val α) : Int := fieldAt fs v.num
structure ValsOk {α : Type} (F : Fld → Val α → Bool) (fs : List Fld) (vals : List (Val α)) : Prop where
  at' : ∀ v ∈ vals, 0 ≤ qOf fs v ∧ qOf fs v < fs.length ∧ (fs.getD (qOf fs v).toNat .zero).number = v.num ∧ F (fs.getD (qOf fs v).toNat .zero) v = true
  rise : vals.Pairwise fun a b => a.num < b.num
theorem valsOk_of {α : Type} {F : Fld → Val α → Bool} {fs : List Fld} : ∀ {vals : List (Val α)} {last : Int}, valsB F fs vals last = true → ValsOk F fs vals ∧ ∀ v ∈ vals, last < v.num
  | [], _, _ => ⟨⟨fun _ h => by simp at h, List.Pairwise.nil⟩, fun _ h => by simp at h⟩
  | v :: r, last, h => by
    unfold valsB at h
    by_cases h0 : fieldAt fs v.num < 0 ∨ v.num ≤ last ∨ F (fs.getD (fieldAt fs v.num).toNat .zero) v = false
    · rw [if_pos h0] at h; cases h
    rw [if_neg h0] at h
    obtain ⟨⟨g1, g2⟩, g3⟩ := valsOk_of h
    have h1 : 0 ≤ fieldAt fs v.num := by
      by_cases h : fieldAt fs v.num < 0
      · exact absurd (.inl h) h0
      · omega
    have h2 : last < v.num := by
      by_cases h : v.num ≤ last
      · exact absurd (.inr (.inl h)) h0
      · omega
    have h3 : F (fs.getD (fieldAt fs v.num).toNat .zero) v = true := by
      cases e : F (fs.getD (fieldAt fs v.num).toNat .zero) v with
      | true => rfl
      | false => exact absurd (.inr (.inr e)) h0
    refine ⟨⟨fun w hw => ?_, List.pairwise_cons.2 ⟨g3, g2⟩⟩, fun w hw => ?_⟩
    · rcases List.mem_cons.1 hw with rfl | hw
      · rcases fieldAt_cases fs w.num with e | ⟨k, hk, e, hn⟩
        · omega
        · refine ⟨h1, ?_, ?_, h3⟩
          · show fieldAt fs w.num < _; omega
          · show (fs.getD (fieldAt fs w.num).toNat .zero).number = _
            rw [e, Int.toNat_natCast]; exact hn
      · exact g1 w hw
    · rcases List.mem_cons.1 hw with rfl | hw
      · exact h2
      · have := g3 w hw; omega
end Go.Proofs.YtaefpjecalnbcaaGreat
