/- darningref14.Right: rightB, for each depth, where the schema is right; darningref13.Args, darningref15.May of one meaning. The meaning's weight is at most 2^40. tree.Right; darningref13.Args, darningref15.May of one meaning: mayCode. The meaning's weight is at most 2^40. canon's writer: put. The tag is right, the value fits; bytes are at most 2^39. canon.writer.value: what a value of a field writes. The value fits the field; bytes are at most 2^36, weights 2^35. Plain laws: the records of a value's canonical bytes (arecs_encV), and what they mean (fieldA_enc). No condition. Plain laws: what a value's records mean is the value (fieldA_enc). No condition. Plain laws: a right meaning's records, gathered by fields, are its values again (msgA_enc). No condition. darningref11.Is; what a check without a fault tells. Bytes of at most 2 to the 40. append of a string's bytes onto the call's own bytes. No condition. canon.writer.message: what a right meaning's values and unknown records write, for each depth. The schema is right; bytes are at most 2^36, weights 2^35. -/
import Derived.Test.YtbcpeckmnmhfhaaGreatZ18
import Derived.Test.YtbcpeckmnmhfhaaGreatZ19
import Derived.Test.YtbcpeckmnmhfhaaGreatZ22
import Derived.Test.YtbcpeckmnmhfhaaGreatZ40
import Derived.BigQuiet
import Derived.Deep.CutBlock
namespace Go.Proofs.YtbcpeckmnmhfhaaGreat
open Go.RowKit
end Go.Proofs.YtbcpeckmnmhfhaaGreat
namespace Go.Proofs.YtbcpeckmnmhfhaaGreat
open Go.RowKit
end Go.Proofs.YtbcpeckmnmhfhaaGreat
namespace Go.Proofs.YtbcpeckmnmhfhaaGreat
open Go.RowKit
/-- What a call on the writer may change: block g, the block of its bytes, new blocks. -/
structure WrStep (g : Nat) (bv : Value) (w : World) (bv' : Value) (w' : World) : Prop where
  os : w'.os = w.os
  tape : w'.tape = w.tape
  output : w'.output = w.output
  size : w.heap.size ≤ w'.heap.size
  keep : ∀ b, b < w.heap.size → b ≠ g → bv.ownBlock ≠ some b → w'.heap[b]? = w.heap[b]?
  own : bv'.ownBlock = bv.ownBlock ∨ bv'.ownBlock = none ∨ ∃ k, w.heap.size ≤ k ∧ bv'.ownBlock = some k
theorem WrStep.refl (g : Nat) (bv : Value) (w : World) : WrStep g bv w bv w := ⟨rfl, rfl, rfl, Nat.le_refl _, fun _ _ _ _ => rfl, .inl rfl⟩
theorem WrStep.trans {g : Nat} {bv bv1 bv2 : Value} {w w1 w2 : World} (h : WrStep g bv w bv1 w1) (h2 : WrStep g bv1 w1 bv2 w2) : WrStep g bv w bv2 w2 := by
  refine ⟨h2.os.trans h.os, h2.tape.trans h.tape, h2.output.trans h.output, Nat.le_trans h.size h2.size, fun b hb hg ho => ?_, ?_⟩
  · refine (h2.keep b (Nat.lt_of_lt_of_le hb h.size) hg ?_).trans (h.keep b hb hg ho)
    rcases h.own with e | e | ⟨k, hk, e⟩
    · rw [e]; exact ho
    · rw [e]; simp
    · rw [e]; intro e2; simp at e2; omega
  · rcases h2.own with e | e | ⟨k, hk, e⟩
    · rw [e]; exact h.own
    · exact .inr (.inl e)
    · exact .inr (.inr ⟨k, Nat.le_trans h.size hk, e⟩)
theorem WrStep.of_below {g : Nat} {bv : Value} {w w' : World} (h : Below w.heap.size w w') : WrStep g bv w bv w' := ⟨h.os, h.tape, h.output, h.size, fun b hb _ _ => h.block b hb, .inl rfl⟩
theorem WrStep.blk {g b : Nat} {bv bv' : Value} {w w' : World} {cs : List Value} {T : TypeId} (h : WrStep g bv w bv' w') (hB : Blk w b cs T) (hg : b ≠ g) (ho : bv.ownBlock ≠ some b) : Blk w' b cs T := (h.keep b hB.lt hg ho).trans hB
end Go.Proofs.YtbcpeckmnmhfhaaGreat
namespace Go.Proofs.YtbcpeckmnmhfhaaGreat
open Go.RowKit
theorem msg_form {d : Nat} {w : World} {v1 v2 : Value} {x : M d} (h : MsgAt d w (.agg #[v1, v2]) x) : ∃ a n c a' n' c', v1 = .slice a n c ∧ v2 = .slice a' n' c' := by
  cases d with
  | zero => exact h.elim
  | succ d =>
    obtain ⟨vv, uv, e, hV, hU⟩ := h
    cases e
    obtain ⟨-, va, vc, rfl, -, -⟩ := hV.open
    obtain ⟨-, ua, uc, rfl, -, -⟩ := hU.open
    exact ⟨_, _, _, _, _, _, rfl, rfl⟩
end Go.Proofs.YtbcpeckmnmhfhaaGreat
namespace Go.Proofs.YtbcpeckmnmhfhaaGreat
open Go.RowKit
end Go.Proofs.YtbcpeckmnmhfhaaGreat
namespace Go.Proofs.YtbcpeckmnmhfhaaGreat
open Go.RowKit
end Go.Proofs.YtbcpeckmnmhfhaaGreat
namespace Go.Proofs.YtbcpeckmnmhfhaaGreat
open Go.RowKit
/-- a value's field's place -/
def qOf {α : Type} (fs : List Fld) (v : Val α) : Int := fieldAt fs v.num
/-- what is known of the values of a right meaning -/
structure ValsOk {α : Type} (F : Fld → Val α → Bool) (fs : List Fld) (vals : List (Val α)) : Prop where
  at' : ∀ v ∈ vals, 0 ≤ qOf fs v ∧ qOf fs v < fs.length ∧ (fs.getD (qOf fs v).toNat .zero).number = v.num ∧ F (fs.getD (qOf fs v).toNat .zero) v = true
  rise : vals.Pairwise fun a b => a.num < b.num
theorem valsOk_of {α : Type} {F : Fld → Val α → Bool} {fs : List Fld} : ∀ {vals : List (Val α)} {last : Int}, valsB F fs vals last = true → ValsOk F fs vals ∧ ∀ v ∈ vals, last < v.num
  | [], _, _ => ⟨⟨fun _ h => by simp at h, List.Pairwise.nil⟩, fun _ h => by simp at h⟩
  | v :: r, last, h => by
    unfold valsB at h
    by_cases h0 : fieldAt fs v.num < 0 ∨ v.num ≤ last ∨ F (fs.getD (fieldAt fs v.num).toNat .zero) v = false
    · rw [if_pos h0] at h; cases h
    rw [if_neg h0] at h
    obtain ⟨⟨g1, g2⟩, g3⟩ := valsOk_of h
    have h1 : 0 ≤ fieldAt fs v.num := by
      by_cases h : fieldAt fs v.num < 0
      · exact absurd (.inl h) h0
      · omega
    have h2 : last < v.num := by
      by_cases h : v.num ≤ last
      · exact absurd (.inr (.inl h)) h0
      · omega
    have h3 : F (fs.getD (fieldAt fs v.num).toNat .zero) v = true := by
      cases e : F (fs.getD (fieldAt fs v.num).toNat .zero) v with
      | true => rfl
      | false => exact absurd (.inr (.inr e)) h0
    refine ⟨⟨fun w hw => ?_, List.pairwise_cons.2 ⟨g3, g2⟩⟩, fun w hw => ?_⟩
    · rcases List.mem_cons.1 hw with rfl | hw
      · rcases fieldAt_cases fs w.num with e | ⟨k, hk, e, hn⟩
        · omega
        · refine ⟨h1, ?_, ?_, h3⟩
          · show fieldAt fs w.num < _; omega
          · show (fs.getD (fieldAt fs w.num).toNat .zero).number = _
            rw [e, Int.toNat_natCast]; exact hn
      · exact g1 w hw
    · rcases List.mem_cons.1 hw with rfl | hw
      · exact h2
      · have := g3 w hw; omega
end Go.Proofs.YtbcpeckmnmhfhaaGreat
namespace Go.Proofs.YtbcpeckmnmhfhaaGreat
open Go.RowKit
theorem vcheck_ok {s : List Mes} {root d : Int} {l : List UInt8} (h : (vcheck s root l d).2 = 0) : sright s = true ∧ (0 ≤ root ∧ root < s.length) ∧ (0 ≤ d ∧ d ≤ 64) ∧ (vmsg s d.toNat root.toNat l).2 = 0 := by
  unfold vcheck at h
  by_cases h0 : argsCode s root d = 0
  · rw [if_neg (by omega)] at h
    obtain ⟨h1, h2, h3, h4, h5⟩ := args_ok h0
    exact ⟨h1, ⟨h2, h3⟩, ⟨h4, h5⟩, h⟩
  · rw [if_pos h0] at h; exact absurd h h0
end Go.Proofs.YtbcpeckmnmhfhaaGreat
namespace Go.Proofs.YtbcpeckmnmhfhaaGreat
open Go.RowKit
theorem own_append_str {w : World} {base : Nat} {v : Value} {l : List UInt8} (h : Own w base v l) (t : List UInt8) (hlen : l.length + t.length ≤ 140737488355328) (hbase : base ≤ w.heap.size) :
    ∃ v' w', (Builtin.append_ #[24, 9] 24 #[v, .string ⟨t.toArray⟩]).run Tryz.prog w = .ok v' w' ∧ Own w' base v' (l ++ t) ∧ w.grownBy w' v.ownBlock ∧ (v'.ownBlock = v.ownBlock ∨ v'.ownBlock = some w.heap.size) := by
  have hs := Src.ofString (P := Tryz.prog) w under_str ⟨t.toArray⟩
  have hsz : (⟨t.toArray⟩ : ByteArray).size = t.length := by simp [ByteArray.size]
  have hby : byteCells ⟨t.toArray⟩ = t.map byteV := by simp [byteCells, byteV]
  rw [hsz, hby] at hs
  obtain ⟨v', w', h1, h2, h3, h4⟩ := src_append (P := Tryz.prog) w base 24 9 24 5 (.int .u8 0) 1 1 under_bytes info_u8 rfl v (.string ⟨t.toArray⟩) l.length t.length _ _ h hs hlen (by omega) hbase
  exact ⟨v', w', h1, by unfold Own; rw [List.length_append, List.map_append]; exact h2, h3, h4⟩
end Go.Proofs.YtbcpeckmnmhfhaaGreat
namespace Go.Proofs.YtbcpeckmnmhfhaaGreat
open Go.RowKit
end Go.Proofs.YtbcpeckmnmhfhaaGreat
