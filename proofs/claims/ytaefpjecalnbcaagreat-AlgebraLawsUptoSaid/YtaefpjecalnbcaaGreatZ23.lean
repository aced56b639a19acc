/- canon's writer: put. The tag is right, the value fits; bytes are at most 2^39. canon.writer.value: what a value of a field writes. The value fits the field; bytes are at most 2^36, weights 2^35. Plain laws: the records of a value's canonical bytes (arecs_encV), and what they mean (fieldA_enc). No condition. Plain laws: what a value's records mean is the value (fieldA_enc). No condition. Plain laws: a right meaning's records, gathered by fields, are its values again (msgA_enc). No condition. -/
import Derived.Test.YtaefpjecalnbcaaGreatZ21
import Derived.Test.YtaefpjecalnbcaaGreatZ22
import Derived.Deep.CutBlock
namespace Go.Proofs.YtaefpjecalnbcaaGreat
open Go.RowKit
/-- What a call on the writer may change: block g, the block of its bytes, new blocks. -/
structure WrStep (g : Nat) (bv : Value) (w : World) (bv' : Value) (w' : World) : Prop where
  os : w'.os = w.os
  tape : w'.tape = w.tape
  output : w'.output = w.output
  size : w.heap.size ≤ w'.heap.size
  keep : ∀ b, b < w.heap.size → b ≠ g → bv.ownBlock ≠ some b → w'.heap[b]? = w.heap[b]?
  own : bv'.ownBlock = bv.ownBlock ∨ bv'.ownBlock = none ∨ ∃ k, w.heap.size ≤ k ∧ bv'.ownBlock = some k
theorem WrStep.refl (g : Nat) (bv : Value) (w : World) : WrStep g bv w bv w := ⟨rfl, rfl, rfl, Nat.le_refl _, fun _ _ _ _ => rfl, .inl rfl⟩
theorem WrStep.trans {g : Nat} {bv bv1 bv2 : Value} {w w1 w2 : World} (h : WrStep g bv w bv1 w1) (h2 : WrStep g bv1 w1 bv2 w2) : WrStep g bv w bv2 w2 := by
  refine ⟨h2.os.trans h.os, h2.tape.trans h.tape, h2.output.trans h.output, Nat.le_trans h.size h2.size, fun b hb hg ho => ?_, ?_⟩
  · refine (h2.keep b (Nat.lt_of_lt_of_le hb h.size) hg ?_).trans (h.keep b hb hg ho)
    rcases h.own with e | e | ⟨k, hk, e⟩
    · rw [e]; exact ho
    · rw [e]; simp
    · rw [e]; intro e2; simp at e2; omega
  · rcases h2.own with e | e | ⟨k, hk, e⟩
    · rw [e]; exact h.own
    · exact .inr (.inl e)
    · exact .inr (.inr ⟨k, Nat.le_trans h.size hk, e⟩)
theorem WrStep.of_below {g : Nat} {bv : Value} {w w' : World} (h : Below w.heap.size w w') : WrStep g bv w bv w' := ⟨h.os, h.tape, h.output, h.size, fun b hb _ _ => h.block b hb, .inl rfl⟩
theorem WrStep.blk {g b : Nat} {bv bv' : Value} {w w' : World} {cs : List Value} {T : TypeId} (h : WrStep g bv w bv' w') (hB : Blk w b cs T) (hg : b ≠ g) (ho : bv.ownBlock ≠ some b) : Blk w' b cs T := (h.keep b hB.lt hg ho).trans hB
end Go.Proofs.YtaefpjecalnbcaaGreat
namespace Go.Proofs.YtaefpjecalnbcaaGreat
open Go.RowKit
end Go.Proofs.YtaefpjecalnbcaaGreat
namespace Go.Proofs.YtaefpjecalnbcaaGreat
open Go.RowKit
end Go.Proofs.YtaefpjecalnbcaaGreat
namespace Go.Proofs.YtaefpjecalnbcaaGreat
open Go.RowKit
/-- what fits, by its kind -/
theorem fits_cases {α : Type} {R : Int → α → Bool} {f : Fld} {x : Val α} (h : fitsB R f x = true) :
    0 < many x ∧ (f.rep = false → many x ≤ 1) ∧
    ((knumber f.kind = true ∧ x.texts = [] ∧ x.subs = [] ∧ ∀ w ∈ x.words, kcanon f.kind w = w) ∨ (f.kind = 17 ∧ x.words = [] ∧ x.texts = [] ∧ ∀ y ∈ x.subs, R f.of y = true) ∨
     (knumber f.kind = false ∧ f.kind ≠ 17 ∧ (f.kind = 15 ∨ f.kind = 16) ∧ x.words = [] ∧ x.subs = [] ∧ (f.kind = 15 → ∀ t ∈ x.texts, ufirst t = t.length))) := by
  unfold fitsB at h
  by_cases h0 : x.words.length + x.texts.length + x.subs.length = 0 ∨ 1 < x.words.length + x.texts.length + x.subs.length ∧ f.rep = false
  · rw [if_pos h0] at h; cases h
  rw [if_neg h0] at h
  have hm : many x = x.words.length + x.texts.length + x.subs.length := rfl
  refine ⟨by omega, fun hr => ?_, ?_⟩
  · rw [hm]
    by_cases h1 : 1 < x.words.length + x.texts.length + x.subs.length
    · exact absurd (.inr ⟨h1, hr⟩) h0
    · omega
  by_cases hk : knumber f.kind = true
  · rw [if_pos hk] at h
    simp only [Bool.and_eq_true, decide_eq_true_eq, List.all_eq_true, List.length_eq_zero_iff] at h
    exact .inl ⟨hk, h.1.1, h.1.2, h.2⟩
  · rw [if_neg hk] at h
    by_cases h17 : f.kind = 17
    · rw [if_pos h17] at h
      simp only [Bool.and_eq_true, decide_eq_true_eq, List.all_eq_true, List.length_eq_zero_iff] at h
      exact .inr (.inl ⟨h17, h.1.1, h.1.2, h.2⟩)
    · rw [if_neg h17] at h
      by_cases h15 : f.kind = 15
      · rw [if_pos h15] at h
        simp only [Bool.and_eq_true, decide_eq_true_eq, List.all_eq_true, List.length_eq_zero_iff] at h
        exact .inr (.inr ⟨by simpa using hk, h17, .inl h15, h.1.1, h.1.2, fun _ => h.2⟩)
      · rw [if_neg h15] at h
        simp only [Bool.and_eq_true, decide_eq_true_eq, List.length_eq_zero_iff] at h
        exact .inr (.inr ⟨by simpa using hk, h17, .inr h.1, h.2.1, h.2.2, fun e => absurd e h15⟩)
end Go.Proofs.YtaefpjecalnbcaaGreat
namespace Go.Proofs.YtaefpjecalnbcaaGreat
open Go.RowKit
/-- a value's field's place -/
def qOf {α : Type} (fs : List Fld) (v : Val α) : Int := fieldAt fs v.num
/-- what is known of the values of a right meaning -/
structure ValsOk {α : Type} (F : Fld → Val α → Bool) (fs : List Fld) (vals : List (Val α)) : Prop where
  at' : ∀ v ∈ vals, 0 ≤ qOf fs v ∧ qOf fs v < fs.length ∧ (fs.getD (qOf fs v).toNat .zero).number = v.num ∧ F (fs.getD (qOf fs v).toNat .zero) v = true
  rise : vals.Pairwise fun a b => a.num < b.num
theorem valsOk_of {α : Type} {F : Fld → Val α → Bool} {fs : List Fld} : ∀ {vals : List (Val α)} {last : Int}, valsB F fs vals last = true → ValsOk F fs vals ∧ ∀ v ∈ vals, last < v.num
  | [], _, _ => ⟨⟨fun _ h => by simp at h, List.Pairwise.nil⟩, fun _ h => by simp at h⟩
  | v :: r, last, h => by
    unfold valsB at h
    by_cases h0 : fieldAt fs v.num < 0 ∨ v.num ≤ last ∨ F (fs.getD (fieldAt fs v.num).toNat .zero) v = false
    · rw [if_pos h0] at h; cases h
    rw [if_neg h0] at h
    obtain ⟨⟨g1, g2⟩, g3⟩ := valsOk_of h
    have h1 : 0 ≤ fieldAt fs v.num := by
      by_cases h : fieldAt fs v.num < 0
      · exact absurd (.inl h) h0
      · omega
    have h2 : last < v.num := by
      by_cases h : v.num ≤ last
      · exact absurd (.inr (.inl h)) h0
      · omega
    have h3 : F (fs.getD (fieldAt fs v.num).toNat .zero) v = true := by
      cases e : F (fs.getD (fieldAt fs v.num).toNat .zero) v with
      | true => rfl
      | false => exact absurd (.inr (.inr e)) h0
    refine ⟨⟨fun w hw => ?_, List.pairwise_cons.2 ⟨g3, g2⟩⟩, fun w hw => ?_⟩
    · rcases List.mem_cons.1 hw with rfl | hw
      · rcases fieldAt_cases fs w.num with e | ⟨k, hk, e, hn⟩
        · omega
        · refine ⟨h1, ?_, ?_, h3⟩
          · show fieldAt fs w.num < _; omega
          · show (fs.getD (fieldAt fs w.num).toNat .zero).number = _
            rw [e, Int.toNat_natCast]; exact hn
      · exact g1 w hw
    · rcases List.mem_cons.1 hw with rfl | hw
      · exact h2
      · have := g3 w hw; omega
/-- the values' places in the fields' order are those of the fields that have a value -/
theorem places {α : Type} {F : Fld → Val α → Bool} {fs : List Fld} {vals : List (Val α)} (h : ValsOk F fs vals) : (sortedF fs).filter (fun i => decide (∃ v ∈ vals, qOf fs v = i)) = vals.map (qOf fs) := by
  have hp : (vals.map (qOf fs)).Pairwise (Ahead fs) := by
    rw [List.pairwise_map]
    refine List.Pairwise.imp_of_mem (fun {a b} ha hb hab => ?_) h.rise
    refine .inl ?_
    unfold numAt
    rw [(h.at' a ha).2.2.1, (h.at' b hb).2.2.1]; exact hab
  have hs := (sortF_ok fs fs.length).2
  have hf : ((sortedF fs).filter (fun i => decide (∃ v ∈ vals, qOf fs v = i))).Pairwise (Ahead fs) := hs.filter _
  have hnd : ∀ {l : List Int}, l.Pairwise (Ahead fs) → l.Nodup := fun {l} hl => List.Pairwise.imp (fun {a b} hab => by rintro rfl; exact Ahead.asymm _ _ hab hab) hl
  refine srt_unique Ahead.asymm hf hp ?_
  refine (List.perm_ext_iff_of_nodup (hnd hf) (hnd hp)).2 fun i => ?_
  rw [List.mem_filter, List.mem_map]
  constructor
  · rintro ⟨-, h2⟩
    simpa using h2
  · rintro ⟨v, hv, rfl⟩
    refine ⟨?_, by simpa using ⟨v, hv, rfl⟩⟩
    have hb := h.at' v hv
    refine (sortF_ok fs fs.length).1.mem_iff.2 (upTo_mem.2 ⟨hb.1, hb.2.1⟩)
end Go.Proofs.YtaefpjecalnbcaaGreat
