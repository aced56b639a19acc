/- Plain laws: the records of bytes, told apart from their places (arecs): of bytes behind bytes they are those of both; the meaning hangs on them alone (msgA). No condition. Plain laws: a record that is put is read (rnext_rput, vlook_rput); its bytes told as records (arecs_rput). No condition. Plain laws: a number's bytes are read back (kread_kput), a run of them too (runWords_kpack). No condition. Plain laws: the records of a value's canonical bytes (arecs_encV), and what they mean (fieldA_enc). No condition. Plain laws: what a value's records mean is the value (fieldA_enc). No condition. Plain laws: a right meaning's records, gathered by fields, are its values again (msgA_enc). No condition. Plain laws: two meanings alike (sameB), a meaning's depth (depthM); as lists are gone through. No condition. -/
import Derived.Test.YtpckoeicbjfnhaaGreatDoorZ11
import Derived.Test.YtpckoeicbjfnhaaGreatDoorZ13
import Derived.Test.YtpckoeicbjfnhaaGreatDoorZ16
import Derived.Test.YtpckoeicbjfnhaaGreatDoorZ17
import Derived.Test.YtpckoeicbjfnhaaGreatDoorZ28
namespace Go.Proofs.YtpckoeicbjfnhaaGreatDoor
open Go.RowKit
/-- a record: its field's place, whether it is a run, its value, all its bytes -/
structure AR where
  k : Int
  run : Bool
  val : List UInt8
  whole : List UInt8
end Go.Proofs.YtpckoeicbjfnhaaGreatDoor
namespace Go.Proofs.YtpckoeicbjfnhaaGreatDoor
open Go.RowKit
end Go.Proofs.YtpckoeicbjfnhaaGreatDoor
namespace Go.Proofs.YtpckoeicbjfnhaaGreatDoor
open Go.RowKit
end Go.Proofs.YtpckoeicbjfnhaaGreatDoor
namespace Go.Proofs.YtpckoeicbjfnhaaGreatDoor
open Go.RowKit
end Go.Proofs.YtpckoeicbjfnhaaGreatDoor
namespace Go.Proofs.YtpckoeicbjfnhaaGreatDoor
open Go.RowKit
end Go.Proofs.YtpckoeicbjfnhaaGreatDoor
namespace Go.Proofs.YtpckoeicbjfnhaaGreatDoor
open Go.RowKit
/-- a value's field's place -/
def qOf {α : Type} (fs : List Fld) (v : Val α) : Int := fieldAt fs v.num
/-- what is known of the values of a right meaning -/
structure ValsOk {α : Type} (F : Fld → Val α → Bool) (fs : List Fld) (vals : List (Val α)) : Prop where
  at' : ∀ v ∈ vals, 0 ≤ qOf fs v ∧ qOf fs v < fs.length ∧ (fs.getD (qOf fs v).toNat .zero).number = v.num ∧ F (fs.getD (qOf fs v).toNat .zero) v = true
  rise : vals.Pairwise fun a b => a.num < b.num
theorem valsOk_of {α : Type} {F : Fld → Val α → Bool} {fs : List Fld} : ∀ {vals : List (Val α)} {last : Int}, valsB F fs vals last = true → ValsOk F fs vals ∧ ∀ v ∈ vals, last < v.num
  | [], _, _ => ⟨⟨fun _ h => by simp at h, List.Pairwise.nil⟩, fun _ h => by simp at h⟩
  | v :: r, last, h => by
    unfold valsB at h
    by_cases h0 : fieldAt fs v.num < 0 ∨ v.num ≤ last ∨ F (fs.getD (fieldAt fs v.num).toNat .zero) v = false
    · rw [if_pos h0] at h; cases h
    rw [if_neg h0] at h
    obtain ⟨⟨g1, g2⟩, g3⟩ := valsOk_of h
    have h1 : 0 ≤ fieldAt fs v.num := by
      by_cases h : fieldAt fs v.num < 0
      · exact absurd (.inl h) h0
      · omega
    have h2 : last < v.num := by
      by_cases h : v.num ≤ last
      · exact absurd (.inr (.inl h)) h0
      · omega
    have h3 : F (fs.getD (fieldAt fs v.num).toNat .zero) v = true := by
      cases e : F (fs.getD (fieldAt fs v.num).toNat .zero) v with
      | true => rfl
      | false => exact absurd (.inr (.inr e)) h0
    refine ⟨⟨fun w hw => ?_, List.pairwise_cons.2 ⟨g3, g2⟩⟩, fun w hw => ?_⟩
    · rcases List.mem_cons.1 hw with rfl | hw
      · rcases fieldAt_cases fs w.num with e | ⟨k, hk, e, hn⟩
        · omega
        · refine ⟨h1, ?_, ?_, h3⟩
          · show fieldAt fs w.num < _; omega
          · show (fs.getD (fieldAt fs w.num).toNat .zero).number = _
            rw [e, Int.toNat_natCast]; exact hn
      · exact g1 w hw
    · rcases List.mem_cons.1 hw with rfl | hw
      · exact h2
      · have := g3 w hw; omega
/-- the values' places in the fields' order are those of the fields that have a value -/
theorem places {α : Type} {F : Fld → Val α → Bool} {fs : List Fld} {vals : List (Val α)} (h : ValsOk F fs vals) : (sortedF fs).filter (fun i => decide (∃ v ∈ vals, qOf fs v = i)) = vals.map (qOf fs) := by
  have hp : (vals.map (qOf fs)).Pairwise (Ahead fs) := by
    rw [List.pairwise_map]
    refine List.Pairwise.imp_of_mem (fun {a b} ha hb hab => ?_) h.rise
    refine .inl ?_
    unfold numAt
    rw [(h.at' a ha).2.2.1, (h.at' b hb).2.2.1]; exact hab
  have hs := (sortF_ok fs fs.length).2
  have hf : ((sortedF fs).filter (fun i => decide (∃ v ∈ vals, qOf fs v = i))).Pairwise (Ahead fs) := hs.filter _
  have hnd : ∀ {l : List Int}, l.Pairwise (Ahead fs) → l.Nodup := fun {l} hl => List.Pairwise.imp (fun {a b} hab => by rintro rfl; exact Ahead.asymm _ _ hab hab) hl
  refine srt_unique Ahead.asymm hf hp ?_
  refine (List.perm_ext_iff_of_nodup (hnd hf) (hnd hp)).2 fun i => ?_
  rw [List.mem_filter, List.mem_map]
  constructor
  · rintro ⟨-, h2⟩
    simpa using h2
  · rintro ⟨v, hv, rfl⟩
    refine ⟨?_, by simpa using ⟨v, hv, rfl⟩⟩
    have hb := h.at' v hv
    refine (sortF_ok fs fs.length).1.mem_iff.2 (upTo_mem.2 ⟨hb.1, hb.2.1⟩)
end Go.Proofs.YtpckoeicbjfnhaaGreatDoor
namespace Go.Proofs.YtpckoeicbjfnhaaGreatDoor
open Go.RowKit
def all2 {α β : Type} (S : α → β → Bool) : List α → List β → Bool
  | [], [] => true
  | x :: r, y :: t => S x y && all2 S r t
  | _, _ => false
def sameV {α β : Type} (S : α → β → Bool) (x : Val α) (y : Val β) : Bool := decide (x.num = y.num ∧ x.words = y.words ∧ x.texts = y.texts) && all2 S x.subs y.subs
/-- are two meanings alike? -/
def sameB : (a b : Nat) → M a → M b → Bool
  | 0, _, x, _ => Empty.elim x
  | _ + 1, 0, _, y => Empty.elim y
  | a + 1, b + 1, x, y => decide (M.unk x = M.unk y) && all2 (sameV (sameB a b)) (M.vals x) (M.vals y)
theorem all2_drop {α β : Type} (S : α → β → Bool) (l : List α) (m : List β) (k : Nat) (x : α) (y : β) (h : l[k]? = some x) (h2 : m[k]? = some y) : all2 S (l.drop k) (m.drop k) = (S x y && all2 S (l.drop (k + 1)) (m.drop (k + 1))) := by
  obtain ⟨hk, rfl⟩ := List.getElem?_eq_some_iff.1 h
  obtain ⟨hk2, rfl⟩ := List.getElem?_eq_some_iff.1 h2
  rw [List.drop_eq_getElem_cons hk, List.drop_eq_getElem_cons hk2, all2]
theorem all2_len {α β : Type} (S : α → β → Bool) : ∀ (l : List α) (m : List β), l.length ≠ m.length → all2 S l m = false
  | [], [], h => absurd rfl h
  | [], _ :: _, _ => rfl
  | _ :: _, [], _ => rfl
  | x :: r, y :: t, h => by
    rw [all2, all2_len S r t (by simpa using h), Bool.and_false]
theorem drop_eq {α : Type} [DecidableEq α] (l m : List α) (k : Nat) (x y : α) (h : l[k]? = some x) (h2 : m[k]? = some y) : decide (l.drop k = m.drop k) = (decide (x = y) && decide (l.drop (k + 1) = m.drop (k + 1))) := by
  obtain ⟨hk, rfl⟩ := List.getElem?_eq_some_iff.1 h
  obtain ⟨hk2, rfl⟩ := List.getElem?_eq_some_iff.1 h2
  rw [Bool.eq_iff_iff, Bool.and_eq_true, decide_eq_true_iff, decide_eq_true_iff, decide_eq_true_iff, List.drop_eq_getElem_cons hk, List.drop_eq_getElem_cons hk2, List.cons.injEq]
theorem bytes_beq (x y : List UInt8) : ((⟨x.toArray⟩ : ByteArray).toList == (⟨y.toArray⟩ : ByteArray).toList) = decide (x = y) := by
  rw [Bool.eq_iff_iff]
  simp [ByteArray.toList_eq]
theorem formM : ∀ {d : Nat} {w : World} {v : Value} {x : M d}, MsgAt d w v x → ∃ a1 n1 c1 a2 n2 c2, v = .agg #[.slice a1 n1 c1, .slice a2 n2 c2]
  | 0, _, _, _, h => h.elim
  | d + 1, _, _, _, h => by
    obtain ⟨vv, uv, rfl, hV, hU⟩ := h
    obtain ⟨-, va, vc, rfl, -, -⟩ := hV.open
    obtain ⟨-, ua, uc, rfl, -, -⟩ := hU.open
    exact ⟨_, _, _, _, _, _, rfl⟩
theorem formV {d : Nat} {w : World} {m : Int} {v1 v2 v3 : Value} {x : Val (M d)} (h : ValAt (MsgAt d) w (.agg #[.int .i64 m, v1, v2, v3]) x) : ∃ a1 n1 c1 a2 n2 c2 a3 n3 c3, v1 = .slice a1 n1 c1 ∧ v2 = .slice a2 n2 c2 ∧ v3 = .slice a3 n3 c3 := by
  obtain ⟨wv, tv, sv, e, -, hW, hT, hS⟩ := h
  cases e
  obtain ⟨-, wa, wc, rfl, -, -⟩ := hW.open
  obtain ⟨-, ta, tc, rfl, -, -⟩ := hT.open
  obtain ⟨-, sa, sc, rfl, -, -⟩ := hS.open
  exact ⟨_, _, _, _, _, _, _, _, _, rfl, rfl, rfl⟩
end Go.Proofs.YtpckoeicbjfnhaaGreatDoor
