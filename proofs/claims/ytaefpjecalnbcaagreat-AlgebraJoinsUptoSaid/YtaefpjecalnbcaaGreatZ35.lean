/- Parts of a proof: texts of the author, merged. No condition of their own. -/
import Derived.Test.YtaefpjecalnbcaaGreatZ07
import Derived.Test.YtaefpjecalnbcaaGreatZ13
import Derived.Test.YtaefpjecalnbcaaGreatZ22
import Derived.Test.YtaefpjecalnbcaaGreatZ23
import Derived.Test.YtaefpjecalnbcaaGreatZ25
import Derived.Test.YtaefpjecalnbcaaGreatZ29
import Derived.StillTailTactics
import Derived.Deep.CutBlock
import Derived.Deep.CutRange
namespace Go.Proofs.YtaefpjecalnbcaaGreat
open Go.RowKit
theorem size_rvalG (w : World) : (sizeOf 71).run Tryz.prog w = .ok 4 w := by kernel_rfl
end Go.Proofs.YtaefpjecalnbcaaGreat
namespace Go.Proofs.YtaefpjecalnbcaaGreat
open Go.RowKit
end Go.Proofs.YtaefpjecalnbcaaGreat
namespace Go.Proofs.YtaefpjecalnbcaaGreat
open Go.RowKit
def getN {α : Type} (l : List (Val α)) (n : Int) : Option (Val α) := l.find? fun v => decide (v.num = n)
end Go.Proofs.YtaefpjecalnbcaaGreat
namespace Go.Proofs.YtaefpjecalnbcaaGreat
open Go.RowKit
theorem getN_drop {α : Type} {l : List (Val α)} {n : Int} {k : Nat} {v : Val α} (hv : l[k]? = some v) : getN (l.drop k) n = if v.num = n then some v else getN (l.drop (k + 1)) n := by
  obtain ⟨h1, e1⟩ := List.getElem?_eq_some_iff.1 hv
  rw [List.drop_eq_getElem_cons h1, e1]
  unfold getN
  rw [List.find?_cons]
  by_cases h : v.num = n
  · simp [h]
  · simp [h]
def GetAt {α : Type} (l : List (Val α)) (n i : Int) : Prop := (i = -1 ∧ getN l n = none) ∨ ∃ (k : Nat) (v : Val α), i = (k : Int) ∧ l[k]? = some v ∧ v.num = n ∧ getN l n = some v
set_option maxRecDepth 100000 in
set_option maxHeartbeats 4000000 in
theorem ref14_Get {α : Type} {P : World → Value → α → Prop} {w : World} {a1 a2 : Option Addr} {n1 c1 n2 c2 : Nat} {l : List (Val α)} (h : ValsAt P w (.slice a1 n1 c1) l) (n : Int) :
    Calls Tryz.prog 40 #[.agg #[.slice a1 n1 c1, .slice a2 n2 c2], .int .i64 n] w fun e w' => ∃ i, e = .returned (.int .i64 i) ∧ GetAt l n i ∧ Below w.heap.size w w' := by
  obtain ⟨hl, a, c, e, -, hat⟩ := h.open
  obtain ⟨rfl, hn, rfl⟩ : a1 = a ∧ n1 = l.length ∧ c1 = c := by injection e with e1 e2 e3; exact ⟨e1, e2, e3⟩
  clear e
  have HN := hid hn
  have HAT := hid hat
  have hl1 : n1 ≤ 140737488355328 := by omega
  obtain ⟨A, HA⟩ : ∃ b, Hid (b = w.heap.size) := ⟨_, rfl⟩
  obtain ⟨W0, HW0⟩ : ∃ W, Hid (W = w.alloc (.cells #[.slice a1 n1 c1, .slice a2 n2 c2] 35)) := ⟨_, rfl⟩
  have hb0 : Below w.heap.size w W0 := by rw [HW0.out]; (repeat (first | with_reducible exact Below.refl _ _ | with_reducible refine Below.setCell ?_ (by first | omega | (simp; omega) | (simp; done)) _ | with_reducible refine Below.alloc ?_ (by first | omega | (simp; omega) | (simp; done)) _ | with_reducible refine below_drewN ?_ _ | with_reducible refine Below.drew ?_))
  have hk0 : Blk W0 A [.slice a1 n1 c1, .slice a2 n2 c2] 35 := by rw [HW0.out, HA.out]; exact Blk.new w [.slice a1 n1 c1, .slice a2 n2 c2] _
  have HB0 := hid hb0
  have c0 := hk0.cell 0 _ rfl
  have cl := hk0.lt
  clear h hl hn hat hb0 hk0
  go_enter Tryz.func40, Tryz.ntmps40
  go_upto_region 1 with fail
  rw [← HW0.out, ← HA.out]
  go_wp2_with fail
  go_loop [5] (fun v5 => ∃ i : Nat, i ≤ n1 ∧ v5 = .int .i64 (i : Int) ∧ Hid (getN l n = getN (l.drop i) n)) (fun v5 => n1 - (intOf v5).toNat)
  case atStart => exact ⟨0, by omega, rfl, rfl⟩
  case round =>
    obtain ⟨i, hi, rfl, HI⟩ := hrel
    by_cases hlt : i < n1
    · obtain ⟨v, hv⟩ : ∃ v, l[i]? = some v := ⟨_, List.getElem?_eq_getElem (by rw [← HN.out]; exact hlt)⟩
      obtain ⟨b, o, v1, v2, v3, ha, g0, -⟩ := HAT.out i v hv
      replace g0 := below_keeps HB0.out _ _ g0
      have hix := index_run Tryz.underlying33 size_rvalG ha i hlt (cap := c1)
      have HD := hid (getN_drop (n := n) hv)
      by_cases hvn : v.num = n
      · have HF : Hid (GetAt l n (i : Int)) := .inr ⟨i, v, rfl, hv, hvn, by rw [HI.out, HD.out, if_pos hvn]⟩
        rw [hvn] at g0
        clear hv ha HD HI hvn
        go_wp2_with fail
        go_ret
        exact ⟨_, rfl, HF.out, HB0.out⟩
      · have HI2 : Hid (getN l n = getN (l.drop (i + 1)) n) := by rw [Hid, HI.out, HD.out, if_neg hvn]
        have e1 : (v.num == n) = false := by simpa using hvn
        have e2 : decide (v.num = n) = false := decide_eq_false hvn
        generalize v.num = vn at *
        clear hv ha HD HI hvn
        go_wp2_with fail
        go_round
        case rel => exact ⟨i + 1, by omega, by go_num, HI2.out⟩
        case measure => simp [intOf]; omega
    · have HF : Hid (GetAt l n (-1)) := .inl ⟨rfl, by rw [HI.out, List.drop_eq_nil_of_le (by rw [← HN.out]; omega)]; rfl⟩
      clear HI
      go_wp2_with fail
      go_ret
      exact ⟨_, rfl, HF.out, HB0.out⟩
end Go.Proofs.YtaefpjecalnbcaaGreat
