/- path.Right; darningref12: Split, Join, Names, Shared, Same. Texts are at most 2^40 bytes. mask.args, lead: maskCode, wayP. Names are at most 2^47 bytes. mask.Resolve, mask.Make. Paths are at most 2^40 bytes. Plain law: in a right schema the names that led to a way are the way's names. No condition. Maps whose keys are pairs of ints (mask.step). -/
import Derived.Test.YtpjikakbdahmfaaGreatDoorZ03
import Derived.Test.YtpjikakbdahmfaaGreatDoorZ06
import Derived.Test.YtpjikakbdahmfaaGreatDoorZ08
import Derived.Test.YtpjikakbdahmfaaGreatDoorZ12
namespace Go.Proofs.YtpjikakbdahmfaaGreatDoor
open Go.RowKit

/-- the pieces of a text, up to a place -/
theorem sdot_piece {p : List UInt8} {f i : Nat} (hf : f ≤ i) (h46 : ∀ j, f ≤ j → j < i → p[j]? ≠ some 46) :
    (i = p.length → sdot (p.drop f) = [(p.drop f).take (i - f)]) ∧ (p[i]? = some 46 → sdot (p.drop f) = (p.drop f).take (i - f) :: sdot (p.drop (i + 1))) := by
  have hno : (46 : UInt8) ∉ (p.drop f).take (i - f) := fun hm => by
    obtain ⟨k, hk⟩ := List.mem_iff_getElem?.1 hm
    rw [List.getElem?_take] at hk
    split at hk
    · rename_i hki
      rw [List.getElem?_drop] at hk
      exact h46 (f + k) (by omega) (by omega) hk
    · cases hk
  constructor
  · intro e
    have : (p.drop f).take (i - f) = p.drop f := List.take_of_length_le (by rw [List.length_drop]; omega)
    rw [this] at hno ⊢
    exact sdot_none hno
  · intro h
    have e : p.drop f = (p.drop f).take (i - f) ++ 46 :: p.drop (i + 1) := by
      conv => lhs; rw [← List.take_append_drop (i - f) (p.drop f)]
      rw [List.drop_drop, show f + (i - f) = i by omega]
      obtain ⟨hl, h2⟩ := List.getElem?_eq_some_iff.1 h
      rw [List.drop_eq_getElem_cons hl, h2]
    conv => lhs; rw [e]
    exact sdot_at _ hno

theorem slice_str_lh (l : List UInt8) (i j : Nat) (hij : i ≤ j) (hj : j ≤ l.length) (W : World) :
    (Instr.slice 9 (strV l) (some (.int .i64 (i : Int))) (some (.int .i64 (j : Int))) none).run Tryz.prog W = .ok (strV ((l.drop i).take (j - i))) W := by
  unfold strV
  rw [run_slice_string (h := Tryz.underlying9) (h0 := by omega) (h1 := by omega) (h2 := by rw [str_size]; omega), Int.toNat_natCast, Int.toNat_natCast]
  congr 2
  apply ByteArray.ext
  apply Array.ext'
  simp

theorem index_str (l : List UInt8) (i : Nat) (c : UInt8) (h : l[i]? = some c) (W : World) :
    (Instr.index 9 (strV l) (.int .i64 (i : Int))).run Tryz.prog W = .ok (.int .u8 (c.toNat : Int)) W := by
  unfold strV
  obtain ⟨hl, h2⟩ := List.getElem?_eq_some_iff.1 h
  rw [run_index_string (h := Tryz.underlying9), dif_pos ⟨by omega, by rw [str_size]; omega⟩]
  simp only [Int.toNat_natCast, ByteArray.getElem_eq_getElem_data]
  simp [h2]

def PairPost (w : World) (b : Bool) (l : List (List UInt8)) (e : Ending) (w' : World) : Prop := ∃ v', e = .returned (.tuple #[v', .bool b]) ∧ StrsOwn w' w.heap.size v' l ∧ Below w.heap.size w w'

set_option maxRecDepth 100000 in
set_option maxHeartbeats 4000000 in
theorem ref12_Split {w : World} (p : List UInt8) (hp : p.length ≤ 549755813888) :
    Calls Tryz.prog 33 #[strV p] w (PairPost w (pathOk p) (if pathOk p = true then sdot p else [])) := by
  have HVP : Hid (strV p = .string ⟨p.toArray⟩) := rfl
  have HP := hid hp
  obtain ⟨n, HN⟩ : ∃ n, Hid (n = p.length) := ⟨_, rfl⟩
  have hn : n ≤ 549755813888 := by rw [HN.out]; exact hp
  have hsz : (⟨p.toArray⟩ : ByteArray).size = n := by rw [str_size, HN.out]
  obtain ⟨PS, HPS⟩ : ∃ s : ByteArray, Hid (s = ⟨p.toArray⟩) := ⟨_, rfl⟩
  rw [HVP.out, ← HPS.out]
  rw [← HPS.out] at hsz
  obtain ⟨Q, HQ⟩ : ∃ Q : Ending → World → Prop, Hid (Q = PairPost w (pathOk p) (if pathOk p = true then sdot p else [])) := ⟨_, rfl⟩
  rw [← HQ.out]
  have HBAD : Hid (∀ w', Below w.heap.size w w' → pathOk p = false → Q (.returned (.tuple #[.slice none 0 0, .bool false])) w') := by
    intro w' hb h
    rw [HQ.out, h, if_neg (by decide)]
    exact ⟨_, rfl, World.ownsRow_nil _ _ _ _, hb⟩
  have HGOOD : Hid (∀ w' v, Below w.heap.size w w' → pathOk p = true → StrsOwn w' w.heap.size v (sdot p) → Q (.returned (.tuple #[v, .bool true])) w') := by
    intro w' v hb h ho
    rw [HQ.out, h, if_pos rfl]
    exact ⟨_, rfl, ho, hb⟩
  clear hp
  go_enter Tryz.func33, Tryz.ntmps33
  go_wp2_with fail
  go_loopw [4, 5, 6] (fun v4 v5 v6 wr => ∃ (f i : Nat) (ls : List (List UInt8)), v5 = .int .i64 f ∧ v6 = .int .i64 i ∧ i ≤ n + 1 ∧ f ≤ i ∧ Hid (namesOk ls = true ∧ StrsOwn wr w.heap.size v4 ls ∧ Below w.heap.size w wr ∧ ls.length ≤ f ∧
      (i ≤ n ∧ sdot p = ls ++ sdot (p.drop f) ∧ (∀ j, f ≤ j → j < i → p[j]? ≠ some 46) ∨ i = n + 1 ∧ sdot p = ls))) (fun _ _ v6 _ => n + 1 - (intOf v6).toNat)
  case atStart => exact ⟨0, 0, [], rfl, rfl, by omega, by omega, rfl, World.ownsRow_nil _ _ _ _, Below.refl _ _, by simp, .inl ⟨by omega, by simp, fun j h1 h2 => by omega⟩⟩
  case round =>
    obtain ⟨f, i, ls, rfl, rfl, hi, hfi, HI⟩ := hrel
    obtain ⟨a, c, e⟩ := HI.out.2.1.form
    obtain ⟨k, HK⟩ : ∃ k, Hid (k = ls.length) := ⟨_, rfl⟩
    rw [← HK.out] at e
    subst e
    have hkk : k ≤ f := by rw [HK.out]; exact HI.out.2.2.2.1
    by_cases hin : i ≤ n
    · have HX : Hid (sdot p = ls ++ sdot (p.drop f) ∧ (∀ j, f ≤ j → j < i → p[j]? ≠ some 46)) := by
        rcases HI.out.2.2.2.2 with h | h
        · exact h.2
        · omega
      have hsl := slice_str_lh p f i hfi (by rw [← HN.out]; exact hin)
      rw [HVP.out, ← HPS.out] at hsl
      obtain ⟨t, HT⟩ : ∃ t, Hid (t = (p.drop f).take (i - f)) := ⟨_, rfl⟩
      have HTL : Hid (t.length ≤ 1099511627776) := by
        have h1 := HP.out
        show _ ≤ _
        rw [HT.out, List.length_take, List.length_drop]; omega
      have HVT : Hid (strV t = .string ⟨t.toArray⟩) := rfl
      rw [← HT.out, HVT.out] at hsl
      have HPC := hid (sdot_piece hfi HX.out.2)
      rw [← HT.out] at HPC
      have HRN := hid (ref07_Name ⟨t.toArray⟩ (by rw [str_size]; have := HTL.out; omega) wr)
      rcases Nat.lt_or_ge i n with hlt | hge
      · obtain ⟨ch, hch⟩ : ∃ ch, p[i]? = some ch := ⟨_, List.getElem?_eq_getElem (by rw [← HN.out]; exact hlt)⟩
        have hix := index_str p i ch hch
        rw [HVP.out, ← HPS.out] at hix
        by_cases h46 : ch = 46
        · subst h46
          have HS := hid (HPC.out.2 hch)
          have e1 : (((46 : UInt8).toNat : Int) != 46) = false := by decide
          have e2 : ((46 : UInt8).toNat : Int) = 46 := by decide
          rw [e2] at hix
          clear hch e1 e2
          cases hnm : nameOk ⟨t.toArray⟩ with
          | false =>
            have HNM := hid hnm
            have HPF : Hid (pathOk p = false) := by
              have h1 := HX.out.1
              rw [HS.out] at h1
              exact pathOk_not (pre := ls) (x := t) ⟨sdot (p.drop (i + 1)), by rw [h1]; simp⟩ (.inr hnm)
            clear hnm
            go_wp2_with (go_at_call 60; refine HRN.out.mono ?_; rintro e w1 ⟨rfl, rfl⟩; rw [HNM.out])
            exact HBAD.out _ HI.out.2.2.1 HPF.out
          | true =>
            have HNM := hid hnm
            clear hnm
            obtain ⟨v5, w5, hr5, hO5, hg5⟩ := HI.out.2.1.one t (by have := HK.out; omega) HI.out.2.2.1.size
            have HB5 := hid (HI.out.2.2.1.grown hg5 HI.out.2.2.1.size (fun q e => (World.ownsRow.lt HI.out.2.1 q e).1))
            obtain ⟨a5, c5, e5⟩ := hO5.form
            obtain ⟨k5, HK5⟩ : ∃ k5, Hid (k5 = (ls ++ [t]).length) := ⟨_, rfl⟩
            rw [← HK5.out] at e5
            subst e5
            rw [HVT.out] at hr5
            have HR5 := hid hr5
            have HO5 := hid hO5
            have HN5 : Hid (namesOk (ls ++ [t]) = true) := by
              have h1 := HI.out.1
              unfold namesOk at h1 ⊢
              rw [Hid, List.all_append, h1]
              simp [HNM.out]
            clear hr5 hO5 hg5
            go_wp2_with (first | (go_at_call 60; refine HRN.out.mono ?_; rintro e w1 ⟨rfl, rfl⟩; rw [HNM.out]) | (at_builtin; refine wpList_append2_eq rfl (.tmp 29) (.tmp 34) 24 24 rfl _ _ rfl rfl HR5.out ?_))
            go_roundw
            case rel =>
              refine ⟨i + 1, i + 1, ls ++ [t], by go_num, by go_num, by omega, by omega, HN5.out, HO5.out, HB5.out, ?_, .inl ⟨by omega, ?_, fun j h1 h2 => by omega⟩⟩
              · have h0 := HK.out
                have h9 : (ls ++ [t]).length = ls.length + 1 := by simp
                omega
              · rw [HX.out.1, HS.out]; simp
            case measure => simp [intOf]; omega
        · have e1 : ((ch.toNat : Int) != 46) = true := by
            simp
            intro e
            exact h46 (UInt8.toNat.inj (by simpa using (by omega : ch.toNat = 46)))
          have HCH := hid (And.intro hch h46)
          clear hch h46
          go_wp2_with fail
          go_roundw
          case rel =>
            refine ⟨f, i + 1, ls, rfl, by go_num, by omega, by omega, HI.out.1, HI.out.2.1, HI.out.2.2.1, HI.out.2.2.2.1, .inl ⟨by omega, HX.out.1, fun j h1 h2 => ?_⟩⟩
            rcases Nat.lt_or_ge j i with h3 | h3
            · exact HX.out.2 j h1 h3
            · obtain rfl : j = i := by omega
              rw [HCH.out.1]
              simpa using HCH.out.2
          case measure => simp [intOf]; omega
      · obtain rfl : i = n := by omega
        have HS := hid (HPC.out.1 HN.out)
        cases hnm : nameOk ⟨t.toArray⟩ with
        | false =>
            have HNM := hid hnm
            have HPF : Hid (pathOk p = false) := by
              have h1 := HX.out.1
              rw [HS.out] at h1
              exact pathOk_not (pre := ls) (x := t) ⟨[], by rw [h1]; simp⟩ (.inr hnm)
            clear hnm
            go_wp2_with (go_at_call 60; refine HRN.out.mono ?_; rintro e w1 ⟨rfl, rfl⟩; rw [HNM.out])
            exact HBAD.out _ HI.out.2.2.1 HPF.out
        | true =>
            have HNM := hid hnm
            clear hnm
            obtain ⟨v5, w5, hr5, hO5, hg5⟩ := HI.out.2.1.one t (by have := HK.out; omega) HI.out.2.2.1.size
            have HB5 := hid (HI.out.2.2.1.grown hg5 HI.out.2.2.1.size (fun q e => (World.ownsRow.lt HI.out.2.1 q e).1))
            obtain ⟨a5, c5, e5⟩ := hO5.form
            obtain ⟨k5, HK5⟩ : ∃ k5, Hid (k5 = (ls ++ [t]).length) := ⟨_, rfl⟩
            rw [← HK5.out] at e5
            subst e5
            rw [HVT.out] at hr5
            have HR5 := hid hr5
            have HO5 := hid hO5
            have HN5 : Hid (namesOk (ls ++ [t]) = true) := by
              have h1 := HI.out.1
              unfold namesOk at h1 ⊢
              rw [Hid, List.all_append, h1]
              simp [HNM.out]
            clear hr5 hO5 hg5
            go_wp2_with (first | (go_at_call 60; refine HRN.out.mono ?_; rintro e w1 ⟨rfl, rfl⟩; rw [HNM.out]) | (at_builtin; refine wpList_append2_eq rfl (.tmp 29) (.tmp 34) 24 24 rfl _ _ rfl rfl HR5.out ?_))
            go_roundw
            case rel =>
              refine ⟨i + 1, i + 1, ls ++ [t], by go_num, by go_num, by omega, by omega, HN5.out, HO5.out, HB5.out, ?_, .inr ⟨rfl, ?_⟩⟩
              · have h0 := HK.out
                have h9 : (ls ++ [t]).length = ls.length + 1 := by simp
                omega
              · rw [HX.out.1, HS.out]
            case measure => simp [intOf]
    · obtain rfl : i = n + 1 := by omega
      have HE : Hid (sdot p = ls) := by
        rcases HI.out.2.2.2.2 with h | h
        · omega
        · exact h.2
      by_cases h65 : 65 < k
      · have HPF : Hid (pathOk p = false) := by
          rw [Hid, pathOk, HE.out, decide_eq_false (by rw [← HK.out]; omega)]; rfl
        go_wp2_with fail
        exact HBAD.out _ HI.out.2.2.1 HPF.out
      · have HPT : Hid (pathOk p = true) := by
          rw [Hid, pathOk, HE.out, HI.out.1, decide_eq_true (by rw [← HK.out]; omega)]; rfl
        go_wp2_with fail
        exact HGOOD.out _ _ HI.out.2.2.1 HPT.out (by rw [HE.out]; exact HI.out.2.1)

theorem size_strp (w : World) : (sizeOf 9).run Tryz.prog w = .ok 1 w := by kernel_rfl
theorem sjoin_snoc (x : List UInt8) : ∀ {l : List (List UInt8)}, l ≠ [] → sjoin (l ++ [x]) = sjoin l ++ 46 :: x
  | [], h => absurd rfl h
  | [y], _ => by simp [sjoin]
  | y :: z :: r, _ => by
    have := sjoin_snoc x (l := z :: r) (by simp)
    rw [List.cons_append] at this
    rw [List.cons_append, List.cons_append, sjoin, this, sjoin]
    simp
theorem str_append (a b : List UInt8) : (⟨a.toArray⟩ : ByteArray) ++ (⟨b.toArray⟩ : ByteArray) = ⟨(a ++ b).toArray⟩ := by
  apply ByteArray.ext
  simp
theorem sjoin_len : ∀ l : List (List UInt8), (sjoin l).length ≤ twt l
  | [] => by simp [sjoin]
  | [x] => by simp [sjoin, twt]
  | x :: y :: r => by
    have := sjoin_len (y :: r)
    rw [sjoin]
    simp [twt] at this ⊢
    omega
theorem twt_take' (l : List (List UInt8)) (k : Nat) : twt (l.take k) ≤ twt l := sum_take_le _ l k

set_option maxRecDepth 100000 in
set_option maxHeartbeats 4000000 in
theorem ref12_Join {w : World} {v : Value} {l : List (List UInt8)} (h : StrsAt w v l) (hw : twt l ≤ 1099511627776) :
    Calls Tryz.prog 72 #[v] w fun e w' => e = .returned (strV (sjoin l)) ∧ Below w.heap.size w w' := by
  obtain ⟨hl, a, c, rfl, -, hat⟩ := h.open
  obtain ⟨n, HN⟩ : ∃ n, Hid (n = l.length) := ⟨_, rfl⟩
  rw [← HN.out] at hl ⊢
  have HAT := hid hat
  have HW := hid hw
  clear hat h hw
  go_enter Tryz.func72, Tryz.ntmps72
  go_wp2_with fail
  go_loopw [3, 4] (fun v3 v4 wr => ∃ (s : ByteArray) (i : Nat), v3 = .string s ∧ v4 = .int .i64 i ∧ i ≤ n ∧ s.size ≤ 1099511627776 ∧ Hid (s = ⟨(sjoin (l.take i)).toArray⟩) ∧ w = wr) (fun _ v4 _ => n - (intOf v4).toNat)
  case atStart => exact ⟨⟨#[]⟩, 0, rfl, rfl, by omega, by decide, rfl, rfl⟩
  case round =>
    obtain ⟨s, i, rfl, rfl, hi, hs, HS, rfl⟩ := hrel
    by_cases hlt : i < n
    · have hxi : l[i]? = some (l[i]'(by rw [← HN.out]; exact hlt)) := List.getElem?_eq_getElem _
      generalize l[i]'(by rw [← HN.out]; exact hlt) = z at hxi
      obtain ⟨hzl, b, o, ha, g0⟩ := HAT.out i z hxi
      have hix := index_run1 Tryz.underlying24 size_strp ha i hlt (cap := c)
      have hbl : b < w.heap.size := World.block_lt_of_cell? w _ g0
      have htk : l.take (i + 1) = l.take i ++ [z] := by rw [List.take_add_one, hxi]; rfl
      have hlen : (sjoin (l.take (i + 1))).length ≤ 1099511627776 := Nat.le_trans (sjoin_len _) (Nat.le_trans (twt_take' l (i + 1)) HW.out)
      unfold strV at g0
      have HXZ := hid (And.intro htk hlen)
      have hzs : (⟨z.toArray⟩ : ByteArray).size ≤ 1099511627776 := by
        rw [str_size]
        have h1 := mem_sum_le (fun t : List UInt8 => 1 + t.length) l z (List.mem_of_getElem? hxi)
        have h2 := HW.out
        unfold twt at h2
        omega
      obtain ⟨zs, HZS⟩ : ∃ zs : ByteArray, Hid (zs = ⟨z.toArray⟩) := ⟨_, rfl⟩
      rw [← HZS.out] at g0 hzs
      clear hxi hzl htk hlen
      by_cases h0 : i = 0
      · subst h0
        have hix0 := index_0 Tryz.underlying24 size_strp ha hlt (cap := c)
        rw [Nat.add_zero] at g0
        have HS1 : Hid (s ++ zs = ⟨(sjoin (l.take (0 + 1))).toArray⟩) := by
          rw [Hid, HS.out, HZS.out, HXZ.out.1, List.take_zero, List.nil_append, str_append]; rfl
        clear ha hix
        go_wp2_with fail
        go_roundw
        case rel => exact ⟨s ++ zs, 0 + 1, rfl, by first | rfl | go_num, hlt, by rw [HS1.out, str_size]; exact HXZ.out.2, HS1.out, by first | trivial | rfl⟩
        case measure => simp [intOf]; omega
      · have hp0 : 0 < i := by omega
        have HS1 : Hid (s ++ ⟨#[46]⟩ ++ zs = ⟨(sjoin (l.take (i + 1))).toArray⟩) := by
          have hne : l.take i ≠ [] := fun e => by
            have := congrArg List.length e
            rw [List.length_take] at this
            have h2 := HN.out
            simp at this
            rcases this with h | h
            · omega
            · rw [h] at h2; simp at h2; omega
          have e46 : (⟨#[46]⟩ : ByteArray) = ⟨[(46 : UInt8)].toArray⟩ := rfl
          rw [Hid, HS.out, HZS.out, HXZ.out.1, sjoin_snoc z hne, e46, str_append, str_append]
          simp
        clear ha
        go_wp2_with fail
        go_roundw
        case rel => exact ⟨s ++ ⟨#[46]⟩ ++ zs, i + 1, rfl, by go_num, hlt, by rw [HS1.out, str_size]; exact HXZ.out.2, HS1.out, by first | trivial | rfl⟩
        case measure => simp [intOf]; omega
    · obtain rfl : i = n := by omega
      go_wp2_with fail
      go_ret
      exact ⟨by rw [HS.out, HN.out, List.take_length]; rfl, Below.refl _ _⟩

end Go.Proofs.YtpjikakbdahmfaaGreatDoor

namespace Go.Proofs.YtpjikakbdahmfaaGreatDoor
open Go.RowKit

def maskArgs (s : List Mes) (root : Int) : Nat := if sright s = false then 9 else if root < 0 ∨ (s.length : Int) ≤ root then 2 else 0

set_option maxRecDepth 100000 in
set_option maxHeartbeats 4000000 in
theorem mask_args {w : World} {sv : Value} {s : List Mes} (hS : SchemaAt w sv s) (root : Int) :
    Calls Tryz.prog 29 #[sv, .int .i64 root] w fun e w' => e = .returned (.int .u8 (maskArgs s root : Nat)) ∧ Below w.heap.size w w' := by
  have HR := hid (schema_Right hS)
  obtain ⟨hn, a, c, rfl, -⟩ := hS.open
  obtain ⟨n, HN⟩ : ∃ n, Hid (n = s.length) := ⟨_, rfl⟩
  rw [← HN.out] at hn HR ⊢
  obtain ⟨y, HY⟩ : ∃ y, Hid (y = sright s) := ⟨_, rfl⟩
  rw [← HY.out] at HR
  obtain ⟨z, HZ⟩ : ∃ z, Hid (z = maskArgs s root) := ⟨_, rfl⟩
  rw [← HZ.out]
  clear hS
  go_enter Tryz.func29, Tryz.ntmps29
  go_wp2_with fail
  refine HR.out.mono ?_
  rintro e w1 ⟨rfl, hb⟩
  have HB := hid hb
  clear hb
  cases y with
  | false =>
    have HE : Hid (z = 9) := by rw [Hid, HZ.out, maskArgs, if_pos HY.out.symm]
    go_wp2_with fail
    go_ret
    exact ⟨by rw [HE.out]; first | done | rfl, HB.out⟩
  | true =>
    by_cases h0 : root < 0
    · have HE : Hid (z = 2) := by rw [Hid, HZ.out, maskArgs, if_neg (by rw [← HY.out]; decide), if_pos (.inl h0)]
      go_wp2_with fail
      go_ret
      exact ⟨by rw [HE.out]; first | done | rfl, HB.out⟩
    · by_cases h1 : (n : Int) ≤ root
      · have HE : Hid (z = 2) := by rw [Hid, HZ.out, maskArgs, if_neg (by rw [← HY.out]; decide), if_pos (.inr (by rw [← HN.out]; exact h1))]
        go_wp2_with fail
        go_ret
        exact ⟨by rw [HE.out]; first | done | rfl, HB.out⟩
      · have HE : Hid (z = 0) := by rw [Hid, HZ.out, maskArgs, if_neg (by rw [← HY.out]; decide), if_neg (by rw [← HN.out]; omega)]
        go_wp2_with fail
        go_ret
        exact ⟨by rw [HE.out]; first | done | rfl, HB.out⟩

/-- the field of a name: its place, the field -/
def fieldNamed (s : List Mes) (root : Int) (t : List UInt8) : Option Fld :=
  if 0 ≤ namedAt (s.getD root.toNat .zero).fields ⟨t.toArray⟩ then some ((s.getD root.toNat .zero).fields.getD (namedAt (s.getD root.toNat .zero).fields ⟨t.toArray⟩).toNat .zero) else none
/-- names to numbers -/
def wayP (s : List Mes) : List (List UInt8) → Int → Option (List Int)
  | [], _ => some []
  | t :: r, root => match fieldNamed s root t with
    | none => none
    | some f => if r = [] then some [f.number] else if f.rep = true ∨ f.kind ≠ 17 then none else (wayP s r f.of).map (f.number :: ·)

def LeadPost (w : World) (o : Option (List Int)) (e : Ending) (w' : World) : Prop := ∃ v', e = .returned (.tuple #[v', .bool o.isSome]) ∧ IntsOwn w' w.heap.size v' (o.getD []) ∧ Below w.heap.size w w'

set_option maxRecDepth 100000 in
set_option maxHeartbeats 4000000 in
theorem mask_lead {w : World} {sv nv : Value} {s : List Mes} {names : List (List UInt8)} (hS : SchemaAt w sv s) (hs : sright s = true) (hN : StrsAt w nv names) (hl : names.length ≤ 1099511627776) (root : Nat) (hroot : root < s.length) :
    Calls Tryz.prog 31 #[sv, .int .i64 (root : Int), nv] w (LeadPost w (wayP s names root)) := by
  have HS := hid hS
  have HSR := hid hs
  obtain ⟨hm, sa, sc, rfl, hsat⟩ := hS.open
  obtain ⟨m, HM⟩ : ∃ m, Hid (m = s.length) := ⟨_, rfl⟩
  rw [← HM.out] at hm HS hroot hsat ⊢
  obtain ⟨-, na, nc, rfl, -, hnat⟩ := hN.open
  obtain ⟨n, HNN⟩ : ∃ n, Hid (n = names.length) := ⟨_, rfl⟩
  rw [← HNN.out] at hl ⊢
  obtain ⟨Q, HQ⟩ : ∃ Q : Ending → World → Prop, Hid (Q = LeadPost w (wayP s names root)) := ⟨_, rfl⟩
  rw [← HQ.out]
  have HBAD : Hid (∀ w', Below w.heap.size w w' → wayP s names root = none → Q (.returned (.tuple #[.slice none 0 0, .bool false])) w') := by
    intro w' hb h
    rw [HQ.out, h]
    exact ⟨_, rfl, World.ownsRow_nil _ _ _ _, hb⟩
  have HGOOD : Hid (∀ w' v l, Below w.heap.size w w' → wayP s names root = some l → IntsOwn w' w.heap.size v l → Q (.returned (.tuple #[v, .bool true])) w') := by
    intro w' v l hb h ho
    rw [HQ.out, h]
    exact ⟨_, rfl, ho, hb⟩
  have HSAT := hid hsat
  have HNAT := hid hnat
  clear hS hs hN hsat hnat
  go_enter Tryz.func31, Tryz.ntmps31
  go_wp2_with fail
  go_loopw [1, 8, 16] (fun v1 v8 v16 wr => ∃ (r i : Nat) (wl : List Int), v1 = .int .i64 r ∧ v16 = .int .i64 i ∧ r < m ∧ i ≤ n ∧ Hid (IntsOwn wr w.heap.size v8 wl ∧ Below w.heap.size w wr ∧ wl.length = i ∧ wayP s names root = (wayP s (names.drop i) r).map (wl ++ ·))) (fun _ _ v16 _ => n - (intOf v16).toNat)
  case atStart => exact ⟨root, 0, [], rfl, rfl, hroot, by omega, World.ownsRow_nil _ _ _ _, Below.refl _ _, rfl, by simp⟩
  case round =>
    obtain ⟨r, i, wl, rfl, rfl, hr, hi, HI⟩ := hrel
    obtain ⟨oa, oc, hoe⟩ := HI.out.1.form
    rw [HI.out.2.2.1] at hoe
    subst hoe
    by_cases hlt : i < n
    · obtain ⟨t, ht⟩ : ∃ t, names[i]? = some t := ⟨_, List.getElem?_eq_getElem (by rw [← HNN.out]; exact hlt)⟩
      obtain ⟨htl, b, o, ha, g0⟩ := HNAT.out i t ht
      have hix := index_run1 Tryz.underlying24 size_strp ha i hlt (cap := nc)
      obtain ⟨b2, o2, fv, ha2, hnl, g1, g2, hF⟩ := HSAT.out r hr
      have hix2 := index_run Tryz.underlying23 size_mes ha2 r hr (cap := sc)
      have hkp := below_keeps HI.out.2.1
      replace g0 := hkp _ _ g0
      replace g1 := hkp _ _ g1
      replace g2 := hkp _ _ g2
      unfold strV at g0
      obtain ⟨fs, HFS⟩ : ∃ fs, Hid (fs = (s.getD r .zero).fields) := ⟨_, rfl⟩
      rw [← HFS.out] at hF
      obtain ⟨nm, HNM⟩ : ∃ nm, Hid (nm = (s.getD r .zero).name) := ⟨_, rfl⟩
      rw [← HNM.out] at g1
      have hF' := hF.keep hkp
      have HBY := hid (schema_ByName hF' nm ⟨t.toArray⟩)
      obtain ⟨hfl, fa, fc, rfl, hfat⟩ := hF'.open
      obtain ⟨fn, HFN⟩ : ∃ fn, Hid (fn = fs.length) := ⟨_, rfl⟩
      rw [← HFN.out] at hfl hfat g2 HBY
      have HD := hid (drop_at ht)
      have HFNM : Hid (fieldNamed s (r : Int) t = if 0 ≤ namedAt fs ⟨t.toArray⟩ then some (fs.getD (namedAt fs ⟨t.toArray⟩).toNat .zero) else none) := by
        rw [Hid, fieldNamed, Int.toNat_natCast, ← HFS.out]
      obtain ⟨kx, HKX⟩ : ∃ kx, Hid (kx = namedAt fs ⟨t.toArray⟩) := ⟨_, rfl⟩
      rw [← HKX.out] at HFNM HBY
      have HFAT := hid hfat
      clear ht ha ha2 hnl hF hF' hkp hfat htl
      by_cases hk0 : 0 ≤ kx
      · obtain ⟨kk, hkk, hkf⟩ : ∃ kk : Nat, kx = kk ∧ kk < fn := by
          rcases firstAt_bd (fun f : Fld => decide (f.name = ⟨t.toArray⟩)) fs 0 with h | ⟨j, h, h1, h2⟩
          · have := HKX.out; unfold namedAt at this; omega
          · exact ⟨j, by have := HKX.out; unfold namedAt at this; omega, by rw [HFN.out]; omega⟩
        subst hkk
        rw [if_pos hk0, decide_eq_true hk0] at HBY
        rw [if_pos hk0, Int.toNat_natCast] at HFNM
        obtain ⟨b3, o3, ha3, hok, f0, f1, f2, f3, f4, f5⟩ := HFAT.out kk hkf
        have hix3 := index_run Tryz.underlying70 size_fld ha3 kk hkf (cap := fc)
        obtain ⟨f, HF⟩ : ∃ f, Hid (f = fs.getD kk .zero) := ⟨_, rfl⟩
        rw [← HF.out] at hok f0 f1 f2 f3 f4 f5 HFNM
        have HFMEM : Hid (f ∈ (s.getD r .zero).fields) := by
          rw [Hid, ← HFS.out, HF.out]
          have : kk < fs.length := by rw [← HFN.out]; exact hkf
          rw [List.getD_eq_getElem?_getD, List.getElem?_eq_getElem this]
          exact List.getElem_mem this
        have HOK := hid hok
        have HF0 := hid f0
        have HF1 := hid f1
        have HF2 := hid f2
        have HF3 := hid f3
        have HF4 := hid f4
        have HF5 := hid f5
        have HG1 := hid g1
        have HG2 := hid g2
        obtain ⟨fname, fnum, fkind, frep, fpack, fof⟩ := f
        simp only at f0 f1 f2 f3 f4 f5
        clear hk0 ha3 hok f0 f1 f2 f3 f4 f5
        go_wp2_with fail
        refine HBY.out.mono ?_
        rintro e w1 ⟨rfl, hb⟩
        have HB1 : Hid (Below w.heap.size w w1) := below_step HI.out.2.1 hb HI.out.2.1.size
        have hkp := below_keeps hb
        replace g1 := hkp _ _ g1
        replace g2 := hkp _ _ g2
        have f0 := hkp _ _ HF0.out
        have f1 := hkp _ _ HF1.out
        have f2 := hkp _ _ HF2.out
        have f3 := hkp _ _ HF3.out
        have f4 := hkp _ _ HF4.out
        have f5 := hkp _ _ HF5.out
        have HOW := hid (HI.out.1.later hb)
        clear hb hkp
        have hwl : wl.length = i := HI.out.2.2.1
        have HWL := hid hwl
        have hsz1 : w.heap.size ≤ w1.heap.size := HB1.out.size
        go_wp2_with (at_builtin; refine wpList_append_int rfl _ _ rfl rfl _ _ _ rfl rfl rfl ?c0 w.heap.size wl ?c1 ?c2 ?c3 ?c4 ?_)
        case c0 => simp
        case c1 =>
          refine HOW.out.later ?_
          (repeat (first | with_reducible exact Below.refl _ _ | with_reducible refine Below.setCell ?_ (by first | omega | (simp; omega) | (simp; done)) _ | with_reducible refine Below.alloc ?_ (by first | omega | (simp; omega) | (simp; done)) _ | with_reducible refine below_drewN ?_ _ | with_reducible refine Below.drew ?_))
        case c2 => exact HOK.out.number
        case c3 => rw [hwl]; omega
        case c4 => simp; omega
        intro a' c' w5 hO5 hB5 hK5
        have hBX : Blk w5 w1.heap.size [.string fname, .int .i64 fnum, .int .i64 fkind, .bool frep, .bool fpack, .int .i64 fof] 50 := (hK5 _ (by simp) (fun e => by have := (World.ownsRow.lt HOW.out _ e).2; omega)).trans (Blk.new w1 [.string fname, .int .i64 fnum, .int .i64 fkind, .bool frep, .bool fpack, .int .i64 fof] _)
        have HO5 := hid hO5
        have HB5 : Hid (Below w.heap.size w w5) := hB5 w (by refine HB1.out.trans ?_; refine Below.mono ?_ hsz1; (repeat (first | with_reducible exact Below.refl _ _ | with_reducible refine Below.setCell ?_ (by first | omega | (simp; omega) | (simp; done)) _ | with_reducible refine Below.alloc ?_ (by first | omega | (simp; omega) | (simp; done)) _ | with_reducible refine below_drewN ?_ _ | with_reducible refine Below.drew ?_)))
        have b2' := hBX.cell 2 _ rfl
        have b3' := hBX.cell 3 _ rfl
        have b5' := hBX.cell 5 _ rfl
        have HN1 : Hid (wayP s names root = if names.drop (i + 1) = [] then some (wl ++ [fnum]) else if frep = true ∨ fkind ≠ 17 then none else (wayP s (names.drop (i + 1)) fof).map ((wl ++ [fnum]) ++ ·)) := by
          rw [Hid, HI.out.2.2.2, HD.out, wayP, HFNM.out]
          simp only
          split
          · simp
          · split
            · simp
            · cases wayP s (List.drop (i + 1) names) fof <;> simp
        clear hO5 hB5 hK5 hBX
        by_cases hlast : i + 1 = n
        · have HNIL : Hid (names.drop (i + 1) = []) := List.drop_eq_nil_of_le (by rw [← HNN.out]; omega)
          rw [if_pos HNIL.out] at HN1
          have e1 : ((i : Int) == (n : Int) - 1) = true := by simp; omega
          have e2 : decide ((i : Int) = (n : Int) - 1) = true := decide_eq_true (by omega)
          clear hlast
          go_wp2_with fail
          exact HGOOD.out _ _ _ HB5.out HN1.out HO5.out
        · have HNNIL : Hid (names.drop (i + 1) ≠ []) := fun e => by
            have := congrArg List.length e
            rw [List.length_drop, ← HNN.out] at this
            simp at this; omega
          rw [if_neg HNNIL.out] at HN1
          have e1 : ((i : Int) == (n : Int) - 1) = false := by simp; omega
          have e2 : decide ((i : Int) = (n : Int) - 1) = false := decide_eq_false (by omega)
          cases frep with
          | true =>
            rw [if_pos (.inl rfl)] at HN1
            clear hlast
            go_wp2_with fail
            exact HBAD.out _ HB5.out HN1.out
          | false =>
            by_cases h17 : fkind = 17
            · rw [if_neg (by simp [h17])] at HN1
              obtain ⟨hof0, hof1⟩ := (sright_field HSR.out r (by rw [← HM.out]; exact hr) _ HFMEM.out).2.1 h17
              simp only at hof0 hof1
              obtain ⟨q, rfl⟩ : ∃ q : Nat, fof = q := ⟨fof.toNat, by omega⟩
              have hqm : q < m := by rw [HM.out]; omega
              subst h17
              clear hof0 hof1
              go_wp2_with fail
              go_roundw
              case rel => exact ⟨q, i + 1, wl ++ [fnum], by go_num, by go_num, hqm, by omega, HO5.out, HB5.out, by rw [List.length_append, HWL.out]; rfl, HN1.out⟩
              case measure => simp [intOf]; omega
            · rw [if_pos (.inr h17)] at HN1
              have k1 : (fkind != 17) = true := by simpa using h17
              have k2 : (fkind == 17) = false := by simpa using h17
              have k3 : decide (fkind = 17) = false := decide_eq_false h17
              clear hlast h17
              go_wp2_with fail
              exact HBAD.out _ HB5.out HN1.out
      · rw [if_neg hk0, decide_eq_false hk0] at HBY
        rw [if_neg hk0] at HFNM
        have HX : Hid (wayP s names root = none) := by
          rw [Hid, HI.out.2.2.2, HD.out, wayP, HFNM.out]; rfl
        clear hk0
        go_wp2_with fail
        refine HBY.out.mono ?_
        rintro e w1 ⟨rfl, hb⟩
        have HB1 : Hid (Below w.heap.size w w1) := below_step HI.out.2.1 hb HI.out.2.1.size
        clear hb
        go_wp2_with fail
        exact HBAD.out _ HB1.out HX.out
    · obtain rfl : i = n := by omega
      have HX : Hid (wayP s names root = some wl) := by
        rw [Hid, HI.out.2.2.2, List.drop_eq_nil_of_le (by rw [← HNN.out]; omega), wayP]; simp
      go_wp2_with fail
      exact HGOOD.out _ _ _ HI.out.2.1 HX.out HI.out.1

end Go.Proofs.YtpjikakbdahmfaaGreatDoor

namespace Go.Proofs.YtpjikakbdahmfaaGreatDoor
open Go.RowKit

theorem wayP_len (s : List Mes) : ∀ (names : List (List UInt8)) (root : Int) (l : List Int), wayP s names root = some l → l.length ≤ names.length
  | [], _, l, h => by simp [wayP] at h; subst h; simp
  | t :: r, root, l, h => by
    rw [wayP] at h
    split at h
    · cases h
    · split at h
      · cases h; simp
      · split at h
        · cases h
        · obtain ⟨l', h1, rfl⟩ := Option.map_eq_some_iff.1 h
          have := wayP_len s r _ l' h1
          simp; omega
/-- the way of a path -/
def resolveW (s : List Mes) (root : Int) (p : List UInt8) : Option (List Int) := if pathOk p = true then wayP s (sdot p) root else none
theorem resolveW_len {s : List Mes} {root : Int} {p : List UInt8} {l : List Int} (h : resolveW s root p = some l) : l.length ≤ 65 := by
  unfold resolveW at h
  split at h
  · rename_i hp
    have h1 := wayP_len s _ _ _ h
    unfold pathOk at hp
    simp at hp
    omega
  · cases h
def resolveC (s : List Mes) (root : Int) (p : List UInt8) : Nat × List Int := if maskArgs s root ≠ 0 then (maskArgs s root, []) else match resolveW s root p with | some l => (0, l) | none => (10, [])

def ResolvePost (w : World) (x : Nat × List Int) (e : Ending) (w' : World) : Prop := ∃ v', e = .returned (.tuple #[v', .int .u8 (x.1 : Nat)]) ∧ IntsOwn w' w.heap.size v' x.2 ∧ Below w.heap.size w w'

theorem maskArgs_cases (s : List Mes) (root : Int) : maskArgs s root = 9 ∨ maskArgs s root = 2 ∨ maskArgs s root = 0 ∧ sright s = true ∧ 0 ≤ root ∧ root < s.length := by
  unfold maskArgs
  split
  · exact .inl rfl
  · rename_i h
    split
    · exact .inr (.inl rfl)
    · exact .inr (.inr ⟨rfl, by simpa using h, by omega, by omega⟩)

theorem strs_len_le {p : List UInt8} {t : List UInt8} (h : t ∈ sdot p) : t.length ≤ p.length := sdot_mem_len p t h

set_option maxRecDepth 100000 in
set_option maxHeartbeats 4000000 in
theorem mask_Resolve {w : World} {sv : Value} {s : List Mes} (hS : SchemaAt w sv s) (root : Int) (p : List UInt8) (hp : p.length ≤ 1099511627776) :
    Calls Tryz.prog 9 #[sv, .int .i64 root, strV p] w (ResolvePost w (resolveC s root p)) := by
  have HS := hid hS
  have HAR := hid (mask_args hS root)
  have HP := hid hp
  obtain ⟨-, sa, sc, rfl, -⟩ := hS.open
  obtain ⟨n, HN⟩ : ∃ n, Hid (n = s.length) := ⟨_, rfl⟩
  rw [← HN.out] at HS HAR ⊢
  have HVP : Hid (strV p = .string ⟨p.toArray⟩) := rfl
  have HSP := hid fun W => path_Split (w := W) p HP.out
  obtain ⟨PS, HPS⟩ : ∃ PS, Hid (PS = (⟨p.toArray⟩ : ByteArray)) := ⟨_, rfl⟩
  rw [HVP.out, ← HPS.out] at HSP ⊢
  obtain ⟨Q, HQ⟩ : ∃ Q : Ending → World → Prop, Hid (Q = ResolvePost w (resolveC s root p)) := ⟨_, rfl⟩
  rw [← HQ.out]
  have HBAD : Hid (∀ w' (c : Nat), Below w.heap.size w w' → resolveC s root p = (c, []) → Q (.returned (.tuple #[.slice none 0 0, .int .u8 (c : Int)])) w') := by
    intro w' c hb h
    rw [HQ.out, h]
    exact ⟨_, rfl, World.ownsRow_nil _ _ _ _, hb⟩
  obtain ⟨ac, HAC⟩ : ∃ ac, Hid (ac = maskArgs s root) := ⟨_, rfl⟩
  rw [← HAC.out] at HAR
  clear hS hp
  rcases maskArgs_cases s root with h | h | ⟨h, hsr, hr0, hr1⟩
  · have HE : Hid (resolveC s root p = (9, [])) := by rw [Hid, resolveC, if_pos (by rw [h]; decide), h]
    rw [← HAC.out] at h
    subst h
    go_enter Tryz.func9, Tryz.ntmps9
    go_wp2_with fail
    refine HAR.out.mono ?_
    rintro e w1 ⟨rfl, hb⟩
    have HB := hid hb
    clear hb
    go_wp2_with fail
    exact HBAD.out _ 9 HB.out HE.out
  · have HE : Hid (resolveC s root p = (2, [])) := by rw [Hid, resolveC, if_pos (by rw [h]; decide), h]
    rw [← HAC.out] at h
    subst h
    go_enter Tryz.func9, Tryz.ntmps9
    go_wp2_with fail
    refine HAR.out.mono ?_
    rintro e w1 ⟨rfl, hb⟩
    have HB := hid hb
    clear hb
    go_wp2_with fail
    exact HBAD.out _ 2 HB.out HE.out
  · have HE : Hid (resolveC s root p = match resolveW s root p with | some l => (0, l) | none => (10, [])) := by rw [Hid, resolveC, if_neg (by rw [h]; decide)]
    have HSR := hid hsr
    rw [← HAC.out] at h
    subst h
    obtain ⟨r, rfl⟩ : ∃ r : Nat, root = r := ⟨root.toNat, by omega⟩
    have HR1 : Hid (r < s.length) := by show _ < _; omega
    clear hsr hr0 hr1
    go_enter Tryz.func9, Tryz.ntmps9
    go_wp2_with fail
    refine HAR.out.mono ?_
    rintro e w1 ⟨rfl, hb⟩
    have HB := hid hb
    clear hb
    go_wp2_with fail
    refine (HSP.out w1).mono ?_
    rintro e w2 ⟨v2, rfl, hO, hb2⟩
    have HB2 : Hid (Below w.heap.size w w2) := below_step HB.out hb2 HB.out.size
    by_cases hok : pathOk p = true
    · rw [if_pos hok] at hO ⊢
      have hn65 : (sdot p).length ≤ 65 := by unfold pathOk at hok; simp at hok; exact hok.1
      have hst := StrsOwn.strs hO (by omega) (fun t ht => by have := strs_len_le ht; have := HP.out; omega)
      have HL := hid (mask_lead (HS.out.below HB2.out) HSR.out hst (by omega) r HR1.out)
      obtain ⟨oa, oc, hoe⟩ := hO.form
      obtain ⟨k, HK⟩ : ∃ k, Hid (k = (sdot p).length) := ⟨_, rfl⟩
      rw [← HK.out] at hoe
      subst hoe
      have HRW : Hid (resolveW s (r : Int) p = wayP s (sdot p) r) := by rw [Hid, resolveW, if_pos hok]
      rw [HRW.out] at HE
      obtain ⟨ow, HOW⟩ : ∃ ow, Hid (ow = wayP s (sdot p) r) := ⟨_, rfl⟩
      rw [← HOW.out] at HE HL
      clear hO hb2 hok hn65 hst
      go_wp2_with fail
      refine HL.out.mono ?_
      rintro e w3 ⟨v3, rfl, hO3, hb3⟩
      have HB3 : Hid (Below w.heap.size w w3) := below_step HB2.out hb3 HB2.out.size
      cases ow with
      | none =>
        clear hO3 hb3
        go_wp2_with fail
        exact HBAD.out _ 10 HB3.out HE.out
      | some l =>
        have HO3 : Hid (IntsOwn w3 w.heap.size v3 l) := row_mono hO3 HB2.out.size
        obtain ⟨a3, c3, rfl⟩ := hO3.form
        have HFIN : Hid (Q (.returned (.tuple #[.slice a3 l.length c3, .int .u8 0])) w3) := by
          rw [HQ.out, HE.out]
          exact ⟨_, rfl, HO3.out, HB3.out⟩
        clear hO3 hb3
        go_wp2_with fail
        exact HFIN.out
    · rw [if_neg hok]
      have HRW : Hid (resolveW s (r : Int) p = none) := by rw [Hid, resolveW, if_neg hok]
      rw [HRW.out] at HE
      obtain ⟨oa, oc, hoe⟩ := hO.form
      obtain ⟨k, HK⟩ : ∃ k, Hid (k = (if pathOk p = true then sdot p else []).length) := ⟨_, rfl⟩
      rw [← HK.out] at hoe
      subst hoe
      clear hO hb2 hok
      go_wp2_with fail
      exact HBAD.out _ 10 HB2.out HE.out

/-- the ways of paths -/
def waysOf (s : List Mes) (root : Int) : List (List UInt8) → Option (List (List Int))
  | [] => some []
  | p :: r => match resolveW s root p with
    | none => none
    | some l => (waysOf s root r).map (l :: ·)
def makeC (s : List Mes) (root : Int) (paths : List (List UInt8)) : Nat × List (List Int) :=
  if maskArgs s root ≠ 0 then (maskArgs s root, []) else if 200 < paths.length then (13, []) else match waysOf s root paths with | some l => (0, mOf l) | none => (10, [])
def MakePost (w : World) (x : Nat × List (List Int)) (e : Ending) (w' : World) : Prop := ∃ v', e = .returned (.tuple #[maskV v', .int .u8 (x.1 : Nat)]) ∧ NewWays w w' v' x.2 ∧ Below w.heap.size w w'
theorem waysOf_light {s : List Mes} {root : Int} : ∀ {paths : List (List UInt8)} {l : List (List Int)}, waysOf s root paths = some l → l.length = paths.length ∧ ∀ x ∈ l, x.length ≤ 65
  | [], l, h => by simp [waysOf] at h; subst h; simp
  | p :: r, l, h => by
    rw [waysOf] at h
    split at h
    · cases h
    · rename_i x hx
      obtain ⟨l', h1, rfl⟩ := Option.map_eq_some_iff.1 h
      obtain ⟨h2, h3⟩ := waysOf_light h1
      refine ⟨by simp [h2], fun y hy => ?_⟩
      rcases List.mem_cons.1 hy with e | hy
      · rw [e]; exact resolveW_len hx
      · exact h3 y hy

theorem ways_step (s : List Mes) (root : Int) (paths : List (List UInt8)) (ws : List (List Int)) (i : Nat) (p : List UInt8) (ow : Option (List Int)) (hd : paths.drop i = p :: paths.drop (i + 1)) (h : waysOf s root paths = (waysOf s root (paths.drop i)).map (ws ++ ·)) (ho : ow = resolveW s root p) :
    waysOf s root paths = ow.bind fun l => (waysOf s root (paths.drop (i + 1))).map ((ws ++ [l]) ++ ·) := by
  rw [h, hd, waysOf, ← ho]
  cases ow with
  | none => rfl
  | some l => cases waysOf s root (paths.drop (i + 1)) <;> simp
theorem schema_ok {w : World} {v : Value} {s : List Mes} (h : SchemaAt w v s) (m : Mes) (hm : m ∈ s) (f : Fld) (hf : f ∈ m.fields) : f.Ok := by
  obtain ⟨fv, -, -, -, h4⟩ := h
  obtain ⟨i, hi, e⟩ := List.getElem_of_mem hm
  have := (h4 i hi).2 f
  rw [List.getD_eq_getElem?_getD, List.getElem?_eq_getElem hi, e] at this
  exact this hf
theorem getD_mem {α : Type} (l : List α) (k : Nat) (d : α) (h : k < l.length) : l.getD k d ∈ l := by
  rw [List.getD_eq_getElem?_getD, List.getElem?_eq_getElem h]
  exact List.getElem_mem h
theorem fieldNamed_mem {s : List Mes} {root : Int} {t : List UInt8} {f : Fld} (h : fieldNamed s root t = some f) : ∃ m ∈ s, f ∈ m.fields := by
  unfold fieldNamed at h
  split at h
  · rename_i h0
    simp only [Option.some.injEq] at h
    obtain ⟨k, hk, hkl⟩ : ∃ k : Nat, namedAt (s.getD root.toNat .zero).fields ⟨t.toArray⟩ = k ∧ k < (s.getD root.toNat .zero).fields.length := by
      rcases firstAt_bd (fun f : Fld => decide (f.name = ⟨t.toArray⟩)) (s.getD root.toNat .zero).fields 0 with h | ⟨j, h, h1, h2⟩
      · unfold namedAt at h0; omega
      · exact ⟨j, h, by omega⟩
    rw [hk, Int.toNat_natCast] at h
    have hf : f ∈ (s.getD root.toNat .zero).fields := by
      rw [← h]
      exact getD_mem _ _ _ hkl
    by_cases hr : root.toNat < s.length
    · exact ⟨s.getD root.toNat .zero, getD_mem _ _ _ hr, hf⟩
    · rw [List.getD_eq_getElem?_getD, List.getElem?_eq_none (by omega)] at hf
      simp [Mes.zero] at hf
  · cases h
theorem wayP_ok {s : List Mes} (hs : ∀ m ∈ s, ∀ f ∈ m.fields, f.Ok) : ∀ (names : List (List UInt8)) (root : Int) (l : List Int), wayP s names root = some l → ∀ x ∈ l, i64ok x
  | [], _, l, h => by simp [wayP] at h; subst h; simp
  | t :: r, root, l, h => by
    rw [wayP] at h
    split at h
    · cases h
    · rename_i f hf
      obtain ⟨m, h1, h2⟩ := fieldNamed_mem hf
      have hfo : i64ok f.number := (hs m h1 f h2).number
      split at h
      · cases h; simpa using hfo
      · split at h
        · cases h
        · obtain ⟨l', h3, rfl⟩ := Option.map_eq_some_iff.1 h
          have := wayP_ok hs r _ l' h3
          intro x hx
          rcases List.mem_cons.1 hx with e | hx
          · rw [e]; exact hfo
          · exact this x hx
theorem resolveW_ok {w : World} {v : Value} {s : List Mes} (hS : SchemaAt w v s) {root : Int} {p : List UInt8} {l : List Int} (h : resolveW s root p = some l) : ∀ x ∈ l, i64ok x := by
  unfold resolveW at h
  split at h
  · exact wayP_ok (schema_ok hS) _ _ _ h
  · cases h

set_option maxRecDepth 100000 in
set_option maxHeartbeats 4000000 in
theorem mask_Make {w : World} {sv pv : Value} {s : List Mes} {paths : List (List UInt8)} (hS : SchemaAt w sv s) (root : Int) (hP : StrsAt w pv paths) (hpl : ∀ p ∈ paths, p.length ≤ 1099511627776) :
    Calls Tryz.prog 12 #[sv, .int .i64 root, pv] w (MakePost w (makeC s root paths)) := by
  obtain ⟨wB, HWB⟩ : ∃ wB, Hid (wB = w.alloc (.cells #[.slice none 0 0] 38)) := ⟨_, rfl⟩
  have hB0 : Below w.heap.size w wB := by rw [HWB.out]; (repeat (first | with_reducible exact Below.refl _ _ | with_reducible refine Below.setCell ?_ (by first | omega | (simp; omega) | (simp; done)) _ | with_reducible refine Below.alloc ?_ (by first | omega | (simp; omega) | (simp; done)) _ | with_reducible refine below_drewN ?_ _ | with_reducible refine Below.drew ?_))
  have HB0 := hid hB0
  have HSZ : Hid (wB.heap.size = w.heap.size + 1) := by rw [HWB.out]; simp [Hid]
  have HBX : Hid (Blk wB w.heap.size [.slice none 0 0] 38) := by rw [HWB.out]; exact Blk.new w [.slice none 0 0] _
  have HS := hid (hS.below hB0)
  have HAR := hid (mask_args (hS.below hB0) root)
  obtain ⟨-, sa, sc, rfl, -⟩ := hS.open
  obtain ⟨m, HM⟩ : ∃ m, Hid (m = s.length) := ⟨_, rfl⟩
  rw [← HM.out] at HS HAR ⊢
  obtain ⟨hn, pa, pc, rfl, -, hpat⟩ := hP.open
  obtain ⟨n, HN⟩ : ∃ n, Hid (n = paths.length) := ⟨_, rfl⟩
  rw [← HN.out] at hn ⊢
  have HPL := hid hpl
  have HPAT := hid hpat
  obtain ⟨Q, HQ⟩ : ∃ Q : Ending → World → Prop, Hid (Q = MakePost w (makeC s root paths)) := ⟨_, rfl⟩
  rw [← HQ.out]
  have HBAD : Hid (∀ w' (c : Nat), Below w.heap.size w w' → makeC s root paths = (c, []) → Q (.returned (.tuple #[maskV (.slice none 0 0), .int .u8 (c : Int)])) w') := by
    intro w' c hb h
    rw [HQ.out, h]
    exact ⟨_, rfl, ⟨by simp, _, Nat.le_refl _, RowsOwn.nil _ _ _ _ _ _⟩, hb⟩
  obtain ⟨ac, HAC⟩ : ∃ ac, Hid (ac = maskArgs s root) := ⟨_, rfl⟩
  rw [← HAC.out] at HAR
  have HCASES := hid (maskArgs_cases s root)
  have HRES := hid fun (W : World) (h : Below w.heap.size w W) (hs : Below wB.heap.size wB W) (p : List UInt8) (hp : p.length ≤ 1099511627776) => mask_Resolve (HS.out.below hs) root p hp
  clear hS hP hpl hpat hB0
  by_cases hac : ac = 0
  · obtain ⟨hsr, hr0, hr1⟩ : sright s = true ∧ 0 ≤ root ∧ root < s.length := by
      rcases HCASES.out with h | h | h
      · rw [← HAC.out, hac] at h; cases h
      · rw [← HAC.out, hac] at h; cases h
      · exact h.2
    have HAZ : Hid (maskArgs s root = 0) := by rw [Hid, ← HAC.out]; exact hac
    subst hac
    have HE : Hid (makeC s root paths = if 200 < n then (13, []) else match waysOf s root paths with | some l => (0, mOf l) | none => (10, [])) := by
      rw [Hid, makeC, if_neg (by rw [HAZ.out]; decide), HN.out]
    have HRC : Hid (∀ p, resolveC s root p = match resolveW s root p with | some l => (0, l) | none => (10, [])) := fun p => by rw [resolveC, if_neg (by rw [HAZ.out]; decide)]
    clear hsr hr0 hr1
    by_cases h200 : 200 < n
    · rw [if_pos h200] at HE
      go_enter Tryz.func12, Tryz.ntmps12
      go_wp2_with fail
      rw [← HWB.out]
      refine HAR.out.mono ?_
      rintro e w1 ⟨rfl, hb⟩
      have HB : Hid (Below w.heap.size w w1) := HB0.out.trans (hb.mono HB0.out.size)
      have HBX1 := hid (HBX.out.below hb)
      have c0 := HBX1.out.cell 0 _ rfl
      have f0 := HBX1.out.free 0
      have hsz := HBX1.out.lt
      have HCS : Hid ((w1.setCell ⟨w.heap.size, 0, none⟩ (.slice none 0 0)).cell? ⟨w.heap.size, 0, none⟩ = some (.slice none 0 0)) := World.cell?_setCell_same' _ _ _ (by rw [c0]; rfl)
      have HFIN := hid (HBAD.out (w1.setCell ⟨w.heap.size, 0, none⟩ (.slice none 0 0)) 13 (HB.out.setCell (by simp) _) HE.out)
      clear hb
      go_wp2_with fail
      refine bodyPost_ret (v := .tuple #[maskV (.slice none 0 0), .int .u8 13]) (by simp [results, Tryz.results12, go_sem, maskV, HCS.out]) rfl HFIN.out
    · rw [if_neg h200] at HE
      have hn200 : n ≤ 200 := by omega
      clear h200
      go_enter Tryz.func12, Tryz.ntmps12
      go_wp2_with fail
      rw [← HWB.out]
      refine HAR.out.mono ?_
      rintro e w1 ⟨rfl, hb1⟩
      have HB1 := hid hb1
      clear hb1
      go_wp2_with fail
      go_loopw [9, 27] (fun v9 v27 wr => ∃ (i : Nat) (ws : List (List Int)), v27 = .int .i64 i ∧ i ≤ n ∧ Hid (RowsOwn WayP 30 1 0 wB.heap.size wr v9 ws ∧ Below wB.heap.size wB wr ∧ ws.length = i ∧ waysOf s root paths = (waysOf s root (paths.drop i)).map (ws ++ ·))) (fun _ v27 _ => n - (intOf v27).toNat)
      case atStart => exact ⟨0, [], rfl, by omega, RowsOwn.nil _ _ _ _ _ _, HB1.out, rfl, by simp⟩
      case round =>
        obtain ⟨i, ws, rfl, hi, HI⟩ := hrel
        obtain ⟨oa, oc, hoe⟩ := HI.out.1.form
        rw [HI.out.2.2.1] at hoe
        subst hoe
        by_cases hlt : i < n
        · obtain ⟨p, hp⟩ : ∃ p, paths[i]? = some p := ⟨_, List.getElem?_eq_getElem (by rw [← HN.out]; exact hlt)⟩
          obtain ⟨-, b, o, ha, g0⟩ := HPAT.out i p hp
          have hix := index_run1 Tryz.underlying24 size_strp ha i hlt (cap := pc)
          have hbw : Below w.heap.size w wr := HB0.out.trans (HI.out.2.1.mono HB0.out.size)
          have HBW := hid hbw
          replace g0 := below_keeps hbw _ _ g0
          have HR := hid (HRES.out wr hbw HI.out.2.1 p (HPL.out p (List.mem_of_getElem? hp)))
          have HD := hid (drop_at hp)
          rw [HRC.out] at HR
          unfold strV at g0 HR
          obtain ⟨PS, HPS⟩ : ∃ PS, Hid (PS = (⟨p.toArray⟩ : ByteArray)) := ⟨_, rfl⟩
          rw [← HPS.out] at g0 HR
          obtain ⟨ow, HOW⟩ : ∃ ow, Hid (ow = resolveW s root p) := ⟨_, rfl⟩
          rw [← HOW.out] at HR
          have HWO := hid (ways_step s root paths ws i p ow HD.out HI.out.2.2.2 HOW.out)
          have HLEN : Hid (∀ l, ow = some l → l.length ≤ 65) := fun l h => resolveW_len (HOW.out ▸ h)
          have HL64 : Hid (∀ l, ow = some l → ∀ x ∈ l, i64ok x) := fun l h => resolveW_ok HS.out (HOW.out ▸ h)
          clear hp ha hbw
          go_wp2_with fail
          refine HR.out.mono ?_
          rintro e w5 ⟨v5, rfl, hO5, hb5⟩
          have HB5 := hid hb5
          cases ow with
          | none =>
            have HE2 : Hid (makeC s root paths = (10, [])) := by rw [Hid, HE.out, HWO.out]; rfl
            obtain ⟨a5, c5, rfl⟩ := hO5.form
            have HB : Hid (Below w.heap.size w w5) := below_step HBW.out HB5.out HBW.out.size
            have HBX1 := hid ((HBX.out.below HI.out.2.1).below hb5)
            have c0 := HBX1.out.cell 0 _ rfl
            have f0 := HBX1.out.free 0
            have hsz := HBX1.out.lt
            have HCS : Hid ((w5.setCell ⟨w.heap.size, 0, none⟩ (.slice none 0 0)).cell? ⟨w.heap.size, 0, none⟩ = some (.slice none 0 0)) := World.cell?_setCell_same' _ _ _ (by rw [c0]; rfl)
            have HFIN := hid (HBAD.out (w5.setCell ⟨w.heap.size, 0, none⟩ (.slice none 0 0)) 10 (HB.out.setCell (by simp) _) HE2.out)
            clear hO5 hb5
            go_wp2_with fail
            refine bodyPost_ret (v := .tuple #[maskV (.slice none 0 0), .int .u8 10]) (by simp [results, Tryz.results12, go_sem, maskV, HCS.out]) rfl HFIN.out
          | some l =>
            obtain ⟨a5, c5, hv5⟩ := hO5.form
            have h65 := HLEN.out l rfl
            subst hv5
            have h64 := HL64.out l rfl
            obtain ⟨a', c', w6, hr, hO6, hB6, hB7⟩ := (HI.out.1).step hb5 (by decide) (Nat.zero_le _) HI.out.2.1.size HI.out.2.2.1 (G := Tryz.prog) 25 (.slice none 0 0) 24 under_ways info_ints rfl #[.slice a5 l.length c5] rfl (by intro u hu; simp at hu; subst hu; rfl) l (hO5.apart (by show l.length ≤ _; omega) h64) (by omega) (by decide)
            have HREL : Hid (RowsOwn WayP 30 1 0 wB.heap.size w6 (.slice a' (i + 1) c') (ws ++ [l]) ∧ Below wB.heap.size wB w6 ∧ (ws ++ [l]).length = i + 1 ∧ waysOf s root paths = (waysOf s root (paths.drop (i + 1))).map ((ws ++ [l]) ++ ·)) :=
              ⟨hO6, HI.out.2.1.trans hB7, by rw [List.length_append, HI.out.2.2.1]; rfl, HWO.out⟩
            clear hO5 hb5 h64 hO6 hB6 hB7 h65
            go_wp2_with (at_builtin; refine wpList_append_eq rfl _ _ _ rfl _ _ rfl rfl hr ?_)
            go_roundw
            case rel => exact ⟨i + 1, _, by go_num, hlt, HREL.out⟩
            case measure => simp [intOf]; omega
        · obtain rfl : i = n := by omega
          have HWS : Hid (waysOf s root paths = some ws) := by
            rw [Hid, HI.out.2.2.2, List.drop_eq_nil_of_le (by rw [← HN.out]; omega), waysOf]; simp
          have HE2 : Hid (makeC s root paths = (0, mOf ws)) := by rw [Hid, HE.out, HWS.out]
          have hWO := RowsOwn.at HI.out.1 (by rw [HI.out.2.2.1]; omega) (w' := wr) (fun _ _ _ => rfl)
          have HOF := hid (mask_Of (show WaysAt wr (.slice oa i oc) ws from hWO) ⟨by rw [HI.out.2.2.1]; omega, fun l hl => by have := (waysOf_light HWS.out).2 l hl; omega⟩)
          have HBX2 := hid (HBX.out.below HI.out.2.1)
          obtain ⟨o, HO⟩ : ∃ o, Hid (o = mOf ws) := ⟨_, rfl⟩
          rw [← HO.out] at HOF HE2
          clear hWO hlt
          go_wp2_with fail
          refine HOF.out.mono ?_
          intro e w3 hp3
          obtain ⟨a3, c3, rfl, -, hb3, hN3⟩ := hp3.open
          obtain ⟨q3, HQ3⟩ : ∃ q3, Hid (q3 = o.length) := ⟨_, rfl⟩
          rw [← HQ3.out] at hN3 ⊢
          have HBX3 := hid (HBX2.out.below hb3)
          have hsz3 := HBX3.out.lt
          have c0 := HBX3.out.cell 0 _ rfl
          have f0 := HBX3.out.free 0
          have hs2 := HI.out.2.1.size
          have HB3 : Hid (Below w.heap.size w w3) := (HB0.out.trans (HI.out.2.1.mono HB0.out.size)).trans (hb3.mono (by have := HSZ.out; omega))
          have HCS : Hid ((w3.setCell ⟨w.heap.size, 0, none⟩ (.slice a3 q3 c3)).cell? ⟨w.heap.size, 0, none⟩ = some (.slice a3 q3 c3)) := World.cell?_setCell_same' _ _ _ (by rw [c0]; rfl)
          have HFIN : Hid (Q (.returned (.tuple #[maskV (.slice a3 q3 c3), .int .u8 0])) (w3.setCell ⟨w.heap.size, 0, none⟩ (.slice a3 q3 c3))) := by
            rw [HQ.out, HE2.out]
            exact ⟨_, rfl, hN3.later (by have := HSZ.out; omega) (by simp) fun b h1 h2 => Below.heap_setCell _ _ _ _ (by show b ≠ w.heap.size; have := HSZ.out; omega), HB3.out.setCell (by simp) _⟩
          unfold maskV
          clear hp3 hb3 hN3 hs2
          go_wp2_with fail
          refine bodyPost_ret (v := .tuple #[maskV (.slice a3 q3 c3), .int .u8 0]) (by simp [results, Tryz.results12, go_sem, maskV, HCS.out]) rfl HFIN.out
  · have HE : Hid (makeC s root paths = (ac, [])) := by rw [Hid, makeC, if_pos (by rw [← HAC.out]; exact hac), HAC.out]
    have e1 : ((ac : Int) != 0) = true := by simp; exact hac
    have e2 : ((ac : Int) == 0) = false := by simp; exact hac
    have e3 : (ac != 0) = true := by simp; exact hac
    have hac0 : 0 < ac := by omega
    have e4 : (ac == 0) = false := by simp; exact hac
    clear hac
    go_enter Tryz.func12, Tryz.ntmps12
    go_wp2_with fail
    rw [← HWB.out]
    refine HAR.out.mono ?_
    rintro e w1 ⟨rfl, hb⟩
    have HB : Hid (Below w.heap.size w w1) := HB0.out.trans (hb.mono HB0.out.size)
    have HBX1 := hid (HBX.out.below hb)
    have c0 := HBX1.out.cell 0 _ rfl
    have f0 := HBX1.out.free 0
    have hsz := HBX1.out.lt
    have HCS : Hid ((w1.setCell ⟨w.heap.size, 0, none⟩ (.slice none 0 0)).cell? ⟨w.heap.size, 0, none⟩ = some (.slice none 0 0)) := World.cell?_setCell_same' _ _ _ (by rw [c0]; rfl)
    have HFIN := hid (HBAD.out (w1.setCell ⟨w.heap.size, 0, none⟩ (.slice none 0 0)) ac (HB.out.setCell (by simp) _) HE.out)
    clear hb
    go_wp2_with fail
    refine bodyPost_ret (v := .tuple #[maskV (.slice none 0 0), .int .u8 (ac : Int)]) (by simp [results, Tryz.results12, go_sem, maskV, HCS.out]) rfl HFIN.out

end Go.Proofs.YtpjikakbdahmfaaGreatDoor

namespace Go.Proofs.YtpjikakbdahmfaaGreatDoor
open Go.RowKit

theorem fieldsFault_apart {n : Nat} : ∀ (fs bf : List Fld) (k : Nat), fieldsFault n bf fs k = none → (∀ f ∈ fs, numMet bf f.number = false ∧ nameMet bf f.name = false) ∧ fs.Pairwise (fun a b => a.number ≠ b.number ∧ a.name ≠ b.name)
  | [], _, _, _ => by simp
  | g :: r, bf, k, h => by
    rw [fieldsFault] at h
    by_cases h0 : fieldFault n (nameMet bf g.name) (numMet bf g.number) g = 0
    · rw [if_pos h0] at h
      obtain ⟨h1, h2⟩ := fieldsFault_apart r _ _ h
      obtain ⟨-, h3, -, h4⟩ := fieldFault_ok h0
      have hg : ∀ f ∈ r, (numMet bf f.number = false ∧ nameMet bf f.name = false) ∧ g.number ≠ f.number ∧ g.name ≠ f.name := by
        intro f hf
        obtain ⟨h5, h6⟩ := h1 f hf
        unfold numMet at h5 ⊢
        unfold nameMet at h6 ⊢
        rw [List.any_append, Bool.or_eq_false_iff] at h5 h6
        refine ⟨⟨h5.1, h6.1⟩, ?_, ?_⟩
        · simpa using h5.2
        · simpa using h6.2
      refine ⟨fun f hf => ?_, ?_⟩
      · rcases List.mem_cons.1 hf with rfl | hf
        · exact ⟨h4, h3⟩
        · exact (hg f hf).1
      · rw [List.pairwise_cons]
        exact ⟨fun f hf => (hg f hf).2, h2⟩
    · rw [if_neg h0] at h; cases h

/-- the fields of a message of a right schema differ in number and name -/
theorem sright_apart {s : List Mes} (h : sright s = true) (m : Mes) (hm : m ∈ s) : m.fields.Pairwise (fun a b => a.number ≠ b.number ∧ a.name ≠ b.name) := by
  have h0 : (scheck s).2.2 = 0 := of_decide_eq_true h
  unfold scheck at h0
  by_cases h1 : s.length = 0 ∨ 100 < s.length
  · rw [if_pos h1] at h0; simp at h0
  rw [if_neg h1] at h0
  obtain ⟨h2, -, -⟩ := scheckGo_ok s [] 0 h0 _ hm
  exact (fieldsFault_apart _ _ _ h2).2

/-- the field of a number -/
def fieldOfNum (s : List Mes) (root : Int) (n : Int) : Option Fld := (s.getD root.toNat .zero).fields.find? fun f => decide (f.number = n)
theorem find_apart : ∀ (fs : List Fld), fs.Pairwise (fun a b => a.number ≠ b.number ∧ a.name ≠ b.name) → ∀ f ∈ fs, fs.find? (fun g => decide (g.number = f.number)) = some f
  | [], _, f, h => by simp at h
  | g :: r, hp, f, h => by
    rw [List.pairwise_cons] at hp
    rcases List.mem_cons.1 h with rfl | h
    · simp
    · rw [List.find?_cons_of_neg (by simpa using (hp.1 f h).1)]
      exact find_apart r hp.2 f h

theorem namedAt_get {fs : List Fld} {t : ByteArray} (h : 0 ≤ namedAt fs t) : ∃ k : Nat, namedAt fs t = k ∧ k < fs.length ∧ (fs.getD k .zero).name = t := by
  unfold namedAt at h ⊢
  have key : ∀ (l : List Fld) (i : Nat), firstAt (fun f : Fld => decide (f.name = t)) l i = -1 ∨ ∃ k : Nat, firstAt (fun f : Fld => decide (f.name = t)) l i = ((i + k : Nat) : Int) ∧ k < l.length ∧ (l.getD k .zero).name = t := by
    intro l
    induction l with
    | nil => intro i; exact .inl rfl
    | cons g r ih =>
      intro i
      simp only [firstAt]
      by_cases hg : g.name = t
      · exact .inr ⟨0, by simp [hg], by simp, by simpa using hg⟩
      · rcases ih (i + 1) with h | ⟨k, h1, h2, h3⟩
        · exact .inl (by simp [hg, h])
        · exact .inr ⟨k + 1, by simp [hg, h1]; omega, by simp; omega, by simpa using h3⟩
  rcases key fs 0 with h' | ⟨k, h1, h2, h3⟩
  · omega
  · exact ⟨k, by simpa using h1, h2, h3⟩

theorem fieldNamed_num {s : List Mes} (hs : sright s = true) {root : Int} {t : List UInt8} {f : Fld} (h : fieldNamed s root t = some f) : fieldOfNum s root f.number = some f ∧ f.name = ⟨t.toArray⟩ := by
  unfold fieldNamed at h
  split at h
  · rename_i h0
    obtain ⟨k, hk, hkl, hn⟩ := namedAt_get h0
    rw [hk, Int.toNat_natCast] at h
    cases h
    refine ⟨?_, hn⟩
    unfold fieldOfNum
    by_cases hr : root.toNat < s.length
    · exact find_apart _ (sright_apart hs _ (getD_mem _ _ _ hr)) _ (getD_mem _ _ _ hkl)
    · have hz : s.getD root.toNat .zero = .zero := by rw [List.getD_eq_getElem?_getD, List.getElem?_eq_none (by omega)]; rfl
      rw [hz] at hkl
      simp [Mes.zero] at hkl
  · cases h

/-- a way's names -/
def namesW (s : List Mes) : Int → List Int → Option (List (List UInt8))
  | _, [] => some []
  | root, n :: r => match fieldOfNum s root n with
    | none => none
    | some f => if r ≠ [] ∧ (f.rep = true ∨ f.kind ≠ 17) then none else (namesW s f.of r).map (f.name.data.toList :: ·)
theorem wayP_names {s : List Mes} (hs : sright s = true) : ∀ (names : List (List UInt8)) (root : Int) (w : List Int), wayP s names root = some w → namesW s root w = some names
  | [], root, w, h => by simp [wayP] at h; subst h; rfl
  | t :: r, root, w, h => by
    rw [wayP] at h
    split at h
    · cases h
    · rename_i f hf
      obtain ⟨h1, h2⟩ := fieldNamed_num hs hf
      have hb : f.name.data.toList = t := by rw [h2]
      split at h
      · rename_i hr
        cases h
        rw [namesW, h1]
        simp [namesW, hb, hr]
      · rename_i hr
        split at h
        · cases h
        · rename_i hc
          obtain ⟨w', h3, rfl⟩ := Option.map_eq_some_iff.1 h
          have h4 := wayP_names hs r _ _ h3
          rw [namesW, h1]
          simp only
          rw [if_neg (fun hh => hc hh.2), h4]
          simp [hb]

end Go.Proofs.YtpjikakbdahmfaaGreatDoor

namespace Go.Proofs.YtpjikakbdahmfaaGreatDoor
open Go.RowKit

def stepK (k : Int × Int) : Value := .agg #[.int .i64 k.1, .int .i64 k.2]

theorem step_equal (w : World) (a b : Int × Int) : (Op.equal 130 (stepK a) (stepK b)).run Tryz.prog w = .ok (decide (a = b)) w := by
  obtain ⟨a1, a2⟩ := a
  obtain ⟨b1, b2⟩ := b
  have u3 := Tryz.underlying3
  have a3 := Tryz.isAgg3
  have z3 := Tryz.sizeOf3
  simp only [stepK, Op.equal, Op.maxDepth]
  rw [show (10000 : Nat) = 9999 + 1 from rfl, Op.equalIn]
  simp only [Sem.run_bind, run_underlying Tryz.underlying130, Result.andThen_ok]
  simp only [Std.Legacy.Range.forIn_eq_forIn_range', Std.Legacy.Range.size, Nat.sub_zero, Nat.add_sub_cancel, Nat.div_one, List.range'_succ, List.range'_zero, List.forIn_cons, List.forIn_nil]
  go_simp
  by_cases h1 : a1 = b1 <;> by_cases h2 : a2 = b2 <;> simp [h1, h2]

theorem step_asking (w : World) (k : Int × Int) : ∀ (es : List ((Int × Int) × Value)) (i j : Nat),
    (Instr.findAsking 130 (stepK k) (entL stepK es i) j).run Tryz.prog w = .ok (posOf k es j) w
  | [], _, _ => rfl
  | (k', v) :: r, i, j => by
    simp only [entL, Instr.findAsking, Sem.run_bind, step_equal, Result.andThen, posOf]
    by_cases e : k = k'
    · simp [e, Sem.run_pure]
    · simp [e, step_asking w k r (i + 1) (j + 1)]

theorem step_check (w : World) (e : Bool) (k : Int × Int) : (Instr.checkKey e 10000 130 (stepK k)).run Tryz.prog w = .ok () w := by
  obtain ⟨a1, a2⟩ := k
  kernel_rfl

theorem step_ok : KeyOk Tryz.prog 130 stepK where
  check w e k := step_check w e k
  find w k es i := by
    have hk := step_asking w k es i 0
    cases es with
    | nil => simp [Instr.findKey, entL, Instr.findNow, posOf, run_underlying Tryz.underlying130, Result.andThen]
    | cons x r =>
      obtain ⟨k', v⟩ := x
      have hn : ∀ (kind : TypeDesc) (l : List MapEntry) (j : Nat), Instr.findNow kind (stepK k) (⟨stepK k', v, i⟩ :: l) j = none := by
        intro kind l j
        have : Instr.sameNow kind (stepK k) (stepK k') = none := by cases kind <;> rfl
        simp only [Instr.findNow, this]
      rw [entL] at hk ⊢
      simp only [Instr.findKey, Sem.run_bind, run_underlying Tryz.underlying130, Result.andThen, hn]
      exact hk

end Go.Proofs.YtpjikakbdahmfaaGreatDoor
