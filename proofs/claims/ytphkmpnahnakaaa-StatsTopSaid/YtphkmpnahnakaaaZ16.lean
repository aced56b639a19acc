/- Plain laws: the meaning of bytes (tof). No condition. Plain laws: bytes behind bytes have the views of both, and are valid if both are; how many views. No condition. Plain laws: valid bytes behind valid bytes are valid. No condition. Plain laws: the records of bytes, told apart from their places (arecs): of bytes behind bytes they are those of both; the meaning hangs on them alone (msgA). No condition. Plain laws: a record cut out of bytes reads as it did; read words are canonical. No condition. -/
import Derived.Test.YtphkmpnahnakaaaZ09
import Derived.Test.YtphkmpnahnakaaaZ13
import Derived.Test.YtphkmpnahnakaaaZ15
namespace Go.Proofs.Ytphkmpnahnakaaa
open Go.RowKit
def vbytes (l : List UInt8) (x : VW) : List UInt8 := part l x.r.at' x.r.to
/-- a view of valid bytes -/
structure ViewOk (s : List Mes) (d m : Nat) (l : List UInt8) (x : VW) : Prop where
  look : ∃ j, vlook (s.getD m .zero).fields l j = (x.r, x.k, x.run, 0)
  right : (vval (vrec s d) (decide (d = 0)) (s.getD m .zero).fields l (x.r, x.k, x.run, 0)).2 = 0
theorem views_ok (s : List Mes) (d m : Nat) (l : List UInt8) : ∀ (fuel i : Nat), l.length ≤ fuel + i → (vfrom s d m l i).2 = 0 →
    (vallGo (s.getD m .zero).fields l fuel i).2.2 = 0 ∧ ∀ x ∈ (vallGo (s.getD m .zero).fields l fuel i).1, ViewOk s d m l x
  | 0, i, _, _ => ⟨rfl, by simp [vallGo]⟩
  | n + 1, i, hn, h => by
    rw [vallGo]
    by_cases hi : l.length ≤ i
    · rw [if_pos hi]; exact ⟨rfl, by simp⟩
    rw [if_neg hi]
    rw [vfrom_at, if_neg hi] at h
    by_cases hc : (vlook (s.getD m .zero).fields l i).2.2.2 = 0
    · rw [if_neg (by omega)] at h ⊢
      by_cases hv : (vval (vrec s d) (decide (d = 0)) (s.getD m .zero).fields l (vlook (s.getD m .zero).fields l i)).2 = 0
      · rw [if_neg (by omega)] at h
        have hto := vlook_to _ _ _ hc
        obtain ⟨g1, g2⟩ := views_ok s d m l n _ (by omega) h
        have he : vlook (s.getD m .zero).fields l i = ((vlook (s.getD m .zero).fields l i).1, (vlook (s.getD m .zero).fields l i).2.1, (vlook (s.getD m .zero).fields l i).2.2.1, 0) := by rw [← hc]
        rw [he] at hv
        simp only
        rw [if_neg (by omega)]
        refine ⟨rfl, fun x hx => ?_⟩
        rcases List.mem_cons.1 hx with rfl | hx
        · exact ⟨⟨i, he⟩, hv⟩
        · exact g2 x hx
      · rw [if_pos hv] at h; exact absurd h hv
    · rw [if_pos hc] at h; exact absurd h hc
theorem vall_ok {s : List Mes} {d m : Nat} {l : List UInt8} (h : (vmsg s d m l).2 = 0) : (vall (s.getD m .zero).fields l).2.2 = 0 ∧ ∀ x ∈ (vall (s.getD m .zero).fields l).1, ViewOk s d m l x :=
  views_ok s d m l _ 0 (by omega) (by rw [← vmsg_from]; exact h)
/-- what is known of such a view -/
theorem ViewOk.facts {s : List Mes} {d m : Nat} {l : List UInt8} {x : VW} (h : ViewOk s d m l x) :
    x.r.start ≤ x.r.at' ∧ x.r.at' ≤ x.r.to ∧ x.r.to ≤ l.length ∧ (x.k = -1 ∧ x.run = false ∨ ∃ k : Nat, x.k = k ∧ k < (s.getD m .zero).fields.length ∧
      (x.run = true → ((s.getD m .zero).fields.getD k .zero).rep = true ∧ knumber ((s.getD m .zero).fields.getD k .zero).kind = true) ∧ kright ((s.getD m .zero).fields.getD k .zero).kind = true) := by
  obtain ⟨j, hj⟩ := h.look
  rcases vlook_cases (s.getD m .zero).fields l j with ⟨c, hc, e, -⟩ | ⟨r, h1, h2, h3, h4, h5, e | ⟨k, run, hk, e, -, h6, h7⟩⟩
  · rw [e] at hj
    exact absurd (congrArg (fun t => t.2.2.2) hj) (by simpa using hc)
  · rw [e] at hj
    injection hj with e1 e2
    injection e2 with e2 e3
    injection e3 with e3 e4
    subst e1
    exact ⟨by omega, h3, h4, .inl ⟨e2.symm, e3.symm⟩⟩
  · rw [e] at hj
    injection hj with e1 e2
    injection e2 with e2 e3
    injection e3 with e3 e4
    subst e1
    subst e3
    refine ⟨by omega, h3, h4, .inr ⟨k, e2.symm, hk, fun hr => ⟨(h6 hr).1, (h6 hr).2.1⟩, ?_⟩⟩
    cases hr : x.run with
    | true => exact kright_num (h6 hr).2.1
    | false => exact (h7 hr).1
theorem ViewOk.sub {s : List Mes} {d m : Nat} {l : List UInt8} {x : VW} (h : ViewOk s d m l x) {k : Nat} (hk : x.k = k) (h17 : ((s.getD m .zero).fields.getD k .zero).kind = 17) :
    ∃ d', d = d' + 1 ∧ (vmsg s d' ((s.getD m .zero).fields.getD k .zero).of.toNat (vbytes l x)).2 = 0 := by
  have h1 := h.right
  obtain ⟨-, -, -, h2⟩ := h.facts
  have hr : x.run ≠ true := by
    rintro hr
    rcases h2 with ⟨h2, -⟩ | ⟨k', h2, -, h3, -⟩
    · omega
    · have : k' = k := by omega
      subst this
      have := (h3 hr).2
      rw [h17] at this
      simp [knumber] at this
  unfold vval at h1
  simp only at h1
  rw [if_neg (by omega), if_neg hr, hk, Int.toNat_natCast, if_neg (by rw [h17]; decide), if_pos h17] at h1
  cases d with
  | zero => simp at h1
  | succ d' =>
    refine ⟨d', rfl, ?_⟩
    rw [if_neg (by simp)] at h1
    exact h1
theorem ViewOk.text {s : List Mes} {d m : Nat} {l : List UInt8} {x : VW} (h : ViewOk s d m l x) {k : Nat} (hk : x.k = k) (h15 : ((s.getD m .zero).fields.getD k .zero).kind = 15) :
    ufirst (vbytes l x) = (vbytes l x).length := by
  have h1 := h.right
  obtain ⟨-, -, -, h2⟩ := h.facts
  have hr : x.run ≠ true := by
    rintro hr
    rcases h2 with ⟨h2, -⟩ | ⟨k', h2, -, h3, -⟩
    · omega
    · have : k' = k := by omega
      subst this
      have := (h3 hr).2
      rw [h15] at this
      simp [knumber] at this
  unfold vval at h1
  simp only at h1
  rw [if_neg (by omega), if_neg hr, hk, Int.toNat_natCast, if_pos h15] at h1
  by_cases h3 : ufirst (vbytes l x) = (vbytes l x).length
  · exact h3
  · rw [if_neg (show ¬ (ufirst (part l x.r.at' x.r.to) = (part l x.r.at' x.r.to).length) from h3)] at h1
    simp at h1
theorem ViewOk.words {s : List Mes} {d m : Nat} {l : List UInt8} {x : VW} (h : ViewOk s d m l x) {k : Nat} (hk : x.k = k) (hr : x.run = true) :
    (runCount (kwire ((s.getD m .zero).fields.getD k .zero).kind) (vbytes l x)).2 = 0 := by
  have h1 := h.right
  unfold vval at h1
  simp only at h1
  rw [if_neg (by omega), if_pos hr, hk, Int.toNat_natCast] at h1
  exact h1
end Go.Proofs.Ytphkmpnahnakaaa
namespace Go.Proofs.Ytphkmpnahnakaaa
open Go.RowKit
theorem vallGo_len (fs : List Fld) (l : List UInt8) : ∀ (n i : Nat), (vallGo fs l n i).1.length + i ≤ max l.length i
  | 0, i => by simp [vallGo]; omega
  | n + 1, i => by
    rw [vallGo]
    by_cases hi : l.length ≤ i
    · rw [if_pos hi]; simp; omega
    rw [if_neg hi]
    by_cases hc : (vlook fs l i).2.2.2 = 0
    · rw [if_neg (by omega)]
      have hto := vlook_to _ _ _ hc
      have ih := vallGo_len fs l n (vlook fs l i).1.to
      simp only
      split
      · simp; omega
      · simp; omega
    · rw [if_pos hc]; simp; omega
theorem vall_len (fs : List Fld) (l : List UInt8) : (vall fs l).1.length ≤ l.length := by
  have := vallGo_len fs l l.length 0
  unfold vall
  omega
end Go.Proofs.Ytphkmpnahnakaaa
namespace Go.Proofs.Ytphkmpnahnakaaa
open Go.RowKit
end Go.Proofs.Ytphkmpnahnakaaa
namespace Go.Proofs.Ytphkmpnahnakaaa
open Go.RowKit
/-- a record: its field's place, whether it is a run, its value, all its bytes -/
structure AR where
  k : Int
  run : Bool
  val : List UInt8
  whole : List UInt8
def arOf (l : List UInt8) (x : VW) : AR := ⟨x.k, x.run, vbytes l x, part l x.r.start x.r.to⟩
def arecs (fs : List Fld) (l : List UInt8) : List AR := (vall fs l).1.map (arOf l)
end Go.Proofs.Ytphkmpnahnakaaa
namespace Go.Proofs.Ytphkmpnahnakaaa
open Go.RowKit
end Go.Proofs.Ytphkmpnahnakaaa
