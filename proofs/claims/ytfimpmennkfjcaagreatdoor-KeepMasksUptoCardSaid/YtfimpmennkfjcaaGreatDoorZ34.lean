/- darningref13.Under; darninglaw13.Many. Plain law: a text's names between its points (sdot), and the text of names (sjoin). No program in sight. No condition. strings.SplitSeq at a point: the iterator strings.splitSeq$1, whose rounds are the names of the text. The text is at most 2^47 bytes. Literals: a block of the call's own, read as words, fields, a schema, values. No condition. A []string of the call's own (StrsOwn): one more string appended. At most 2^40 strings. -/
import Derived.Test.YtfimpmennkfjcaaGreatDoorShelf
import Derived.Test.YtfimpmennkfjcaaGreatDoorZ05
import Derived.Test.YtfimpmennkfjcaaGreatDoorZ10
import Derived.Test.YtfimpmennkfjcaaGreatDoorZ13
import Derived.Test.YtfimpmennkfjcaaGreatDoorZ16
import Derived.Test.YtfimpmennkfjcaaGreatDoorZ22
import Derived.Test.YtfimpmennkfjcaaGreatDoorZ33
import Derived.Lib.IndexLaws
import Derived.Lib.Join
import Derived.RangeFuncFrom
import Derived.OwnWalkIn
import Derived.TacticsInMore
import Derived.RegionIn
import Derived.LoopNIn
import Derived.LoopIn
import Derived.Shelf.Abstract
namespace Go.Proofs.YtfimpmennkfjcaaGreatDoor
open Go.RowKit
set_option maxRecDepth 100000 in
set_option maxHeartbeats 4000000 in
theorem ref13_Under {w : World} {v : Value} {m : List (List Int)} (h : WaysAt w v m) (hL : LightW m) (x : Int) :
    Calls Tryz.prog 38 #[v, .int .i64 x] w fun e w' => ∃ v', e = .returned v' ∧ WaysAt w' v' (underW m x) ∧ Below w.heap.size w w' := by
  have HML := hid hL
  obtain ⟨w1, rfl⟩ : ∃ w1 : World, w1 = w := ⟨_, rfl⟩
  obtain ⟨-, a2, c2, rfl, -, hat⟩ := h.open
  obtain ⟨n, HN⟩ : ∃ n, Hid (n = m.length) := ⟨_, rfl⟩
  rw [← HN.out]
  have hn : n ≤ 1099511627776 := by rw [HN.out]; exact hL.1
  have HAT := hid hat
  clear h hL hat
  go_enter Tryz.func38, Tryz.ntmps38
  go_wp2_with fail
  go_loopw [5, 6] (fun v6 v14 wr => ∃ (k : Nat) (o : List (List Int)), v14 = .int .i64 k ∧ k ≤ n ∧ Hid (RowsOwn WayP 56 1 w1.heap.size w1.heap.size wr v6 o ∧ o.length ≤ k ∧ o ++ underW (m.drop k) x = underW m x ∧ Below w1.heap.size w1 wr)) (fun _ v14 _ => n - (intOf v14).toNat)
  case atStart => exact ⟨0, [], rfl, by omega, RowsOwn.nil _ _ _ _ _ _, by simp, rfl, Below.refl _ _⟩
  case round =>
    obtain ⟨k, o, rfl, hk, HI⟩ := hrel
    obtain ⟨oa, oc, hoe⟩ := HI.out.1.form
    obtain ⟨j, HJ⟩ : ∃ j, Hid (j = o.length) := ⟨_, rfl⟩
    rw [← HJ.out] at hoe
    subst hoe
    have hjk : j ≤ k := by rw [HJ.out]; exact HI.out.2.1
    by_cases hlt : k < n
    · obtain ⟨y, hy⟩ := way_get HN.out hlt
      obtain ⟨b, q, ya, yc, ha, g0, hY⟩ := HAT.out k y hy
      replace g0 := below_keeps HI.out.2.2.2 _ _ g0
      have hix := index_run1 Tryz.underlying34 size_ints ha k hlt (cap := c2)
      have HD := hid (drop_at hy)
      have HYL : Hid (y.length ≤ 17592186044416) := HML.out.2 y (List.mem_of_getElem? hy)
      obtain ⟨q2, HQ2⟩ : ∃ q2, Hid (q2 = y.length) := ⟨_, rfl⟩
      rw [← HQ2.out] at g0 hY
      obtain ⟨-, ya', yc', hye, -, hyat⟩ := hY.open
      rw [← HQ2.out] at hye
      cases hye
      have HY := hid hY
      have HY64 := hid hY.2
      clear hy ha hY
      by_cases h1 : 1 < q2
      · obtain ⟨z, hz⟩ := int_get HQ2.out (by omega : 0 < q2)
        obtain ⟨hz64, b2, o2, ha2, g2⟩ := hyat 0 z hz
        have hix2 := index_0 Tryz.underlying56 size_int ha2 (by omega : 0 < q2) (cap := yc)
        replace g2 := below_keeps HI.out.2.2.2 _ _ g2
        rw [Nat.add_zero] at g2
        by_cases hzx : z = x
        · subst hzx
          have HTK := hid (under_take (m.drop (k + 1)) (by rw [← HQ2.out]; exact h1) hz)
          obtain ⟨ta, tc, hsl, hT⟩ := HY.out.l HQ2.out 1 (by omega)
          have hsl' : ∀ W, (Instr.slice 56 (.slice ya q2 yc) (some (.int .i64 1)) none none).run Tryz.prog W = .ok (.slice ta (q2 - 1) tc) W := hsl
          obtain ⟨a', c', w6, hr, hO6, hB6, hB7⟩ := (HI.out.1).step (Below.refl _ _) (by decide) (Nat.le_refl _) HI.out.2.2.2.size HJ.out.symm (G := Tryz.prog) 34 (.slice none 0 0) 24 under_ways info_ints rfl #[.slice ta (q2 - 1) tc] rfl (by intro u hu; simp at hu; subst hu; rfl) (y.drop 1)
            (fun w' hw' => ⟨_, rfl, hT.keep (keep_old fun b hb => (hw' b (Nat.lt_of_lt_of_le hb HI.out.2.2.2.size) (.inl hb)).trans (HI.out.2.2.2.block b hb))⟩) (by omega) (by decide)
          have HO6 := hid hO6
          have HB7 := hid hB7
          have hq1 : ((q2 - 1 : Nat) : Int) = (q2 : Int) - 1 := by omega
          clear hO6 hB6 hB7 hyat hz ha2 hT hsl hq1
          go_wp2_with (at_builtin; refine wpList_append_eq rfl _ _ _ rfl _ _ rfl rfl hr ?_)
          go_roundw
          case rel => exact ⟨k + 1, _, by go_num, hlt, HO6.out, by rw [List.length_append]; have := HI.out.2.1; simp; omega, by rw [← HI.out.2.2.1, HD.out, HTK.out, List.append_assoc]; rfl, HI.out.2.2.2.trans HB7.out⟩
          case measure => simp [intOf]; omega
        · have HTK := hid (under_skip2 (m.drop (k + 1)) hz hzx)
          have e1 : (z == x) = false := by simpa using hzx
          clear hzx hyat hz ha2
          go_wp2_with fail
          go_roundw
          case rel => exact ⟨k + 1, o, by go_num, hlt, HI.out.1, by have := HI.out.2.1; omega, by rw [← HI.out.2.2.1, HD.out, HTK.out], HI.out.2.2.2⟩
          case measure => simp [intOf]; omega
      · have HTK := hid (under_skip1 (x := x) (m.drop (k + 1)) (by rw [← HQ2.out]; exact h1))
        have e1 : decide ((1 : Int) < q2) = false := decide_eq_false (by omega)
        clear hyat h1
        go_wp2_with fail
        go_roundw
        case rel => exact ⟨k + 1, o, by go_num, hlt, HI.out.1, by have := HI.out.2.1; omega, by rw [← HI.out.2.2.1, HD.out, HTK.out], HI.out.2.2.2⟩
        case measure => simp [intOf]; omega
    · obtain rfl : k = n := by omega
      have HEN : Hid (o = underW m x) := by
        have := HI.out.2.2.1
        rw [List.drop_eq_nil_of_le (by rw [← HN.out]; omega)] at this
        rw [Hid, ← this]; simp [underW]
      have hWO := RowsOwn.at HI.out.1 (by have := HI.out.2.1; omega) (w' := wr) (fun _ _ _ => rfl)
      rw [HEN.out] at hWO
      have HWO := hid hWO
      clear hlt hWO
      go_wp2_with fail
      go_ret
      exact ⟨_, rfl, HWO.out, HI.out.2.2.2⟩
def SomeBool (w : World) (e : Ending) (w' : World) : Prop := (∃ b, e = .returned (.bool b)) ∧ w = w'
theorem SomeBool.mk {w : World} {e : Ending} (b : Bool) (h : e = .returned (.bool b)) : SomeBool w e w := ⟨⟨b, h⟩, rfl⟩
set_option maxRecDepth 100000 in
set_option maxHeartbeats 4000000 in
theorem law13_Many {w : World} {v : Value} {ls : List (List Int)} (h : WaysAt w v ls) :
    Calls Tryz.prog 12 #[v] w (SomeBool w) := by
  obtain ⟨hl, a, c, rfl, -, hat⟩ := h.open
  obtain ⟨n, HN⟩ : ∃ n, Hid (n = ls.length) := ⟨_, rfl⟩
  rw [← HN.out] at hl ⊢
  have HAT := hid hat
  clear h hat
  go_enter Tryz.func12, Tryz.ntmps12
  go_wp2_with fail
  go_loop [3, 4] (fun v3 v4 => ∃ (k : Nat) (z : Int), v4 = .int .i64 k ∧ k ≤ n ∧ v3 = .int .i64 z) (fun _ v4 => n - (intOf v4).toNat)
  case atStart => exact ⟨0, 0, rfl, by omega, rfl⟩
  case round =>
    obtain ⟨k, z, rfl, hk, rfl⟩ := hrel
    by_cases hlt : k < n
    · obtain ⟨y, hy⟩ := way_get HN.out hlt
      obtain ⟨b, q, ya, yc, ha, g0, hY⟩ := HAT.out k y hy
      have hix := index_run1 Tryz.underlying34 size_ints ha k hlt (cap := c)
      obtain ⟨q2, HQ2⟩ : ∃ q2, Hid (q2 = y.length) := ⟨_, rfl⟩
      rw [← HQ2.out] at g0
      clear hy ha hY
      go_wp2_with fail
      go_round
      case rel => exact ⟨k + 1, _, by go_num, hlt, rfl⟩
      case measure => simp [intOf]; omega
    · obtain rfl : k = n := by omega
      go_wp2_with fail
      go_ret
      exact SomeBool.mk _ rfl
end Go.Proofs.YtfimpmennkfjcaaGreatDoor
namespace Go.Proofs.YtfimpmennkfjcaaGreatDoor
open Go.RowKit
def sdot : List UInt8 → List (List UInt8)
  | [] => [[]]
  | c :: r => if c = 46 then [] :: sdot r else match sdot r with
    | [] => [[c]]
    | h :: t => (c :: h) :: t
theorem sdot_cons (l : List UInt8) : ∃ h t, sdot l = h :: t := by
  cases l with
  | nil => exact ⟨_, _, rfl⟩
  | cons c r =>
    rw [sdot]
    split
    · exact ⟨_, _, rfl⟩
    · split <;> exact ⟨_, _, rfl⟩
theorem sdot_none : ∀ {l : List UInt8}, (46 : UInt8) ∉ l → sdot l = [l]
  | [], _ => rfl
  | c :: r, h => by
    have hc : c ≠ 46 := fun e => h (by simp [e])
    rw [sdot, if_neg hc, sdot_none (l := r) (fun e => h (by simp [e]))]
theorem sdot_at : ∀ {a : List UInt8} (b : List UInt8), (46 : UInt8) ∉ a → sdot (a ++ 46 :: b) = a :: sdot b
  | [], b, _ => by rw [List.nil_append, sdot, if_pos rfl]
  | c :: r, b, h => by
    have hc : c ≠ 46 := fun e => h (by simp [e])
    rw [List.cons_append, sdot, if_neg hc, sdot_at (a := r) b (fun e => h (by simp [e]))]
theorem sdot_len : ∀ l : List UInt8, (sdot l).length ≤ l.length + 1
  | [] => by simp [sdot]
  | c :: r => by
    have := sdot_len r
    rw [sdot]
    split
    · simp; omega
    · split
      · simp
      · rename_i h t e
        rw [e] at this
        simp at this ⊢
        omega
theorem sdot_mem_len : ∀ (l : List UInt8) (t : List UInt8), t ∈ sdot l → t.length ≤ l.length
  | [], t, h => by simp [sdot] at h; simp [h]
  | c :: r, t, h => by
    have ih := sdot_mem_len r
    rw [sdot] at h
    split at h
    · rcases List.mem_cons.1 h with rfl | h
      · simp
      · have := ih t h; simp; omega
    · split at h
      · simp at h; subst h; simp
      · rename_i hd tl e
        rcases List.mem_cons.1 h with rfl | h
        · have := ih hd (by rw [e]; simp)
          simp; omega
        · have := ih t (by rw [e]; simp [h])
          simp; omega
/-- What the library's index of a point tells. -/
theorem sdot_index_none {l : List UInt8} (h : Lib.indexByte l 46 = -1) : sdot l = [l] :=
  sdot_none fun hm => by
    obtain ⟨k, hk⟩ := List.mem_iff_getElem?.1 hm
    exact Lib.indexByte_none h k hk
theorem sdot_index_some {l : List UInt8} {i : Nat} (h : Lib.indexByte l 46 = i) : i < l.length ∧ sdot l = l.take i :: sdot (l.drop (i + 1)) := by
  obtain ⟨h1, h2⟩ := Lib.indexByte_some h
  obtain ⟨hi, h3⟩ := List.getElem?_eq_some_iff.1 h1
  refine ⟨hi, ?_⟩
  have e : l = l.take i ++ 46 :: l.drop (i + 1) := by
    conv => lhs; rw [← List.take_append_drop i l]
    rw [List.drop_eq_getElem_cons hi, h3]
  conv => lhs; rw [e]
  refine sdot_at _ fun hm => ?_
  obtain ⟨k, hk⟩ := List.mem_iff_getElem?.1 hm
  rw [List.getElem?_take] at hk
  split at hk
  · rename_i hki
    exact h2 k hki hk
  · cases hk
/-- the text of names -/
def sjoin : List (List UInt8) → List UInt8
  | [] => []
  | [x] => x
  | x :: y :: r => x ++ 46 :: sjoin (y :: r)
theorem sjoin_lib : ∀ l : List (List UInt8), Lib.join l [46] = sjoin l
  | [] => rfl
  | [x] => by rw [Lib.join_one]; rfl
  | x :: y :: r => by
    rw [Lib.join_cons, sjoin, ← sjoin_lib (y :: r), Lib.join_cons]
    simp [Lib.joinTail]
theorem sdot_sjoin : ∀ {l : List (List UInt8)}, l ≠ [] → (∀ x ∈ l, (46 : UInt8) ∉ x) → sdot (sjoin l) = l
  | [], h, _ => absurd rfl h
  | [x], _, h => sdot_none (h x (by simp))
  | x :: y :: r, _, h => by
    rw [sjoin, sdot_at _ (h x (by simp)), sdot_sjoin (by simp) fun z hz => h z (by simp [List.mem_cons.1 hz])]
end Go.Proofs.YtfimpmennkfjcaaGreatDoor
namespace Go.Proofs.YtfimpmennkfjcaaGreatDoor
open Go.RowKit Go.Shelf
attribute [local go_sem] Oper.semAt_some
theorem str_take (l : List UInt8) (i : Nat) : (⟨l.toArray⟩ : ByteArray).extract 0 i = ⟨(l.take i).toArray⟩ := by
  apply ByteArray.ext
  simp
theorem str_drop (l : List UInt8) (i : Nat) : (⟨l.toArray⟩ : ByteArray).extract i (⟨l.toArray⟩ : ByteArray).size = ⟨(l.drop i).toArray⟩ := by
  apply ByteArray.ext
  apply Array.ext'
  simp [ByteArray.size]
  exact List.take_of_length_le (by simp)
theorem str_size (l : List UInt8) : (⟨l.toArray⟩ : ByteArray).size = l.length := by simp [ByteArray.size]
theorem slice_str_h (l : List UInt8) (i : Nat) (hi : i ≤ l.length) (W : World) :
    (Instr.slice 9 (strV l) none (some (.int .i64 (i : Int))) none).run Tryz.prog W = .ok (strV (l.take i)) W := by
  unfold strV
  rw [run_slice_string_h (ht := Tryz.underlying9) (h0 := by omega) (h2 := by rw [str_size]; omega), Int.toNat_natCast, str_take]
theorem slice_str_l (l : List UInt8) (i : Nat) (hi : i ≤ l.length) (W : World) :
    (Instr.slice 9 (strV l) (some (.int .i64 (i : Int))) none none).run Tryz.prog W = .ok (strV (l.drop i)) W := by
  unfold strV
  rw [run_slice_string_l (ht := Tryz.underlying9) (h0 := by omega) (h1 := by rw [str_size]; omega), Int.toNat_natCast, str_drop]
def strLen : Option Value → Nat
  | some (.string s) => s.size
  | _ => 0
set_option maxRecDepth 100000 in
set_option maxHeartbeats 4000000 in
theorem split_1 (n : Nat) (hn : 1 ≤ n) (l bp bs bq : Nat) (p : List UInt8) (hp : p.length ≤ 140737488355328)
    (J : List (List UInt8) → List UInt8 → World → Prop) (Jx : List (List UInt8) → World → Prop)
    (h1 : ∀ pre rest W, J pre rest W → W.cell? ⟨bp, 0, none⟩ = some (.string ⟨#[46]⟩) ∧ W.cell? ⟨bs, 0, none⟩ = some (strV rest) ∧ W.frozen? ⟨bs, 0, none⟩ = false ∧ W.cell? ⟨bq, 0, none⟩ = some (.int .i64 0))
    (h3 : ∀ pre rest rest' W, J pre rest W → J pre rest' (W.setCell ⟨bs, 0, none⟩ (strV rest')))
    (hY : ∀ pre rest W x, pre.length < (sdot p).length → J pre rest W → x.length ≤ p.length → YieldAt Fence.wide (n - 1) Tryz.prog l #[strV x] W fun e' W' =>
      (e' = .returned (.bool true) ∧ J (pre ++ [x]) rest W') ∨ (e' = .returned (.bool false) ∧ Jx (pre ++ [x]) W'))
    (W : World) (h0 : J [] p W) :
    CallsIn Fence.wide n Tryz.prog 169 #[.func (.yield l) #[] #[], .pointer (some ⟨bp, 0, none⟩), .pointer (some ⟨bs, 0, none⟩), .pointer (some ⟨bq, 0, none⟩)] W fun e W' => (∃ v, e = .returned v) ∧
      ((∃ rest, J (sdot p) rest W') ∨ ∃ pre, pre <+: sdot p ∧ Jx pre W') := by
  refine callsIn_of_wp Tryz.func169 rfl trivial ?_ rfl
  simp only [Tryz.ntmps169, List.size_toArray, List.length_cons, List.length_nil, Nat.reduceAdd, Nat.reduceSub, Array.replicate_succ, Array.replicate_zero, List.push_toArray, List.append_toArray, List.nil_append, List.cons_append]
  have HP := hid hp
  obtain ⟨c0, -, -, -⟩ := h1 _ _ _ h0
  clear hp
  gi_wp2
  clear c0
  gi_loopw [] (fun wr => ∃ pre rest, J pre rest wr ∧ Hid (sdot p = pre ++ sdot rest ∧ rest.length ≤ p.length)) (fun wr => strLen (wr.cell? ⟨bs, 0, none⟩))
  case atStart => exact ⟨[], p, h0, rfl, Nat.le_refl _⟩
  case round =>
    obtain ⟨pre, rest, hJ, HR⟩ := hrel
    obtain ⟨cp, cs, fs, cq⟩ := h1 _ _ _ hJ
    have hrl := HR.out.2
    have hpl : pre.length < (sdot p).length := by
      obtain ⟨h, t, e⟩ := sdot_cons rest
      rw [HR.out.1, e, List.length_append]
      simp
    rcases (by omega : Lib.indexByte rest 46 < 0 ∨ 0 ≤ Lib.indexByte rest 46) with hneg | hpos
    · have hi : Lib.indexByte rest 46 = -1 := by have := Lib.indexByte_ge rest 46; omega
      have HI := hid hi
      have HE := hid (sdot_index_none hi)
      obtain ⟨fn, tmps, assign, body, hy, hRd⟩ := hY pre rest wr rest hpl hJ hrl
      have hix := Tryz.strings_Index_one ⟨rest.toArray⟩ 46 wr
      rw [show (⟨rest.toArray⟩ : ByteArray).data.toList = rest by simp, HI.out] at hix
      have HX := hid hix
      clear hix hi hneg
      unfold strV at cs hy
      gi_wp2_with (refine ⟨trivial, ?_⟩; gi_at_call 171; refine (callsIn_wide.2 HX.out).mono ?_; rintro e w' ⟨rfl, rfl⟩)
      refine hRd.mono ?_
      rintro e' W' (⟨rfl, hJ'⟩ | ⟨rfl, hX⟩)
      · gi_wp2
        go_end0
        exact ⟨⟨_, rfl⟩, .inl ⟨rest, by rw [HR.out.1, HE.out]; exact hJ'⟩⟩
      · have HXX := hid hX
        clear hX
        gi_wp2
        go_end0
        exact ⟨⟨_, rfl⟩, .inr ⟨_, by rw [HR.out.1, HE.out]; exact List.prefix_refl _, HXX.out⟩⟩
    · obtain ⟨i, hi⟩ : ∃ i : Nat, Lib.indexByte rest 46 = i := ⟨(Lib.indexByte rest 46).toNat, by omega⟩
      have HI := hid hi
      obtain ⟨hil, he⟩ := sdot_index_some hi
      have HE := hid he
      obtain ⟨fn, tmps, assign, body, hy, hRd⟩ := hY pre rest wr (rest.take i) hpl hJ (by rw [List.length_take]; omega)
      have hix := Tryz.strings_Index_one ⟨rest.toArray⟩ 46 wr
      rw [show (⟨rest.toArray⟩ : ByteArray).data.toList = rest by simp, HI.out] at hix
      have HX := hid hix
      have hsh := slice_str_h rest i (by omega)
      have hsl := slice_str_l rest (i + 1) (by omega)
      rw [show ((i + 1 : Nat) : Int) = (i : Int) + 1 by omega] at hsl
      have hib : i ≤ 140737488355328 := by have := HP.out; omega
      have HIL := hid hil
      have HCS := hid cs
      clear hix hi hpos he hil hrl hpl
      unfold strV at cs hy hsh hsl
      gi_wp2_with (refine ⟨trivial, ?_⟩; gi_at_call 171; refine (callsIn_wide.2 HX.out).mono ?_; rintro e w' ⟨rfl, rfl⟩)
      refine hRd.mono ?_
      rintro e' W' (⟨rfl, hJ'⟩ | ⟨rfl, hX⟩)
      · obtain ⟨cp', cs', fs', cq'⟩ := h1 _ _ _ hJ'
        have hJ2 := h3 _ _ (rest.drop (i + 1)) _ hJ'
        have HJ2 := hid hJ2
        have HCS' := hid cs'
        unfold strV at cs'
        clear cp cs fs cq hy hRd hJ2
        gi_wp2
        go_roundw
        case rel =>
          refine ⟨_, _, HJ2.out, ?_, ?_⟩
          · rw [HR.out.1, HE.out]; simp
          · have := HR.out.2
            rw [List.length_drop]; omega
        case measure =>
          rw [World.cell?_setCell_same' _ _ _ (by rw [HCS'.out]; rfl), HCS.out]
          have := HIL.out
          simp only [strLen, strV, str_size, List.length_drop]
          omega
      · have HXX := hid hX
        clear hX
        gi_wp2
        refine bodyPost_ret (results_none rfl _ _ _) rfl ?_
        exact ⟨⟨_, rfl⟩, .inr ⟨_, by rw [HR.out.1, HE.out]; exact ⟨sdot (rest.drop (i + 1)), by simp⟩, HXX.out⟩⟩
/-- the iterator: the boxes of the text, of the point and of 0 -/
def dotFn (B : Nat) : Value := .func (.func 169) #[] #[.pointer (some ⟨B + 1, 0, none⟩), .pointer (some ⟨B, 0, none⟩), .pointer (some ⟨B + 1 + 1, 0, none⟩)]
set_option maxRecDepth 100000 in
set_option maxHeartbeats 4000000 in
theorem strings_splitSeq {w : World} (n : Nat) (s : ByteArray) :
    CallsIn Fence.wide n Tryz.prog 140 #[.string s, .string ⟨#[46]⟩, .int .i64 0] w fun e w' => e = .returned (dotFn w.heap.size) ∧
      w' = ((w.alloc (.cells #[.string s] 9)).alloc (.cells #[.string ⟨#[46]⟩] 9)).alloc (.cells #[.int .i64 0] 3) := by
  refine callsIn_of_wp Tryz.func140 rfl trivial ?_ rfl
  simp only [Tryz.ntmps140, List.size_toArray, List.length_cons, List.length_nil, Nat.reduceAdd, Nat.reduceSub, Array.replicate_succ, Array.replicate_zero, List.push_toArray, List.append_toArray, List.nil_append, List.cons_append]
  gi_wp2
  go_ret
  exact ⟨rfl, rfl⟩
set_option maxRecDepth 100000 in
set_option maxHeartbeats 4000000 in
theorem strings_SplitSeq {w : World} (n : Nat) (hn : 1 ≤ n) (s : ByteArray) :
    CallsIn Fence.wide n Tryz.prog 104 #[.string s, .string ⟨#[46]⟩] w fun e w' => e = .returned (dotFn w.heap.size) ∧
      w' = ((w.alloc (.cells #[.string s] 9)).alloc (.cells #[.string ⟨#[46]⟩] 9)).alloc (.cells #[.int .i64 0] 3) := by
  refine callsIn_of_wp Tryz.func104 rfl trivial ?_ rfl
  simp only [Tryz.ntmps104, List.size_toArray, List.length_cons, List.length_nil, Nat.reduceAdd, Nat.reduceSub, Array.replicate_succ, Array.replicate_zero, List.push_toArray, List.append_toArray, List.nil_append, List.cons_append]
  gi_wp2_with (refine ⟨trivial, ?_⟩; gi_at_call 140; refine (strings_splitSeq _ s).mono ?_; rintro e w' ⟨rfl, rfl⟩)
  go_ret
  exact ⟨rfl, rfl⟩
end Go.Proofs.YtfimpmennkfjcaaGreatDoor
namespace Go.Proofs.YtfimpmennkfjcaaGreatDoor
open Go.RowKit
/-! Literals: a block as a slice. -/
theorem fields_blk {w : World} {g : Nat} {fs : List Fld} {T : TypeId} (h : Blk w g (fs.flatMap Fld.cells) T) (n : Nat) (hl : n = fs.length) (hn : n ≤ 140737488355328) (hok : ∀ f ∈ fs, f.Ok) : FieldsAt w (.slice (some ⟨g, 0, none⟩) n n) fs := by
  subst hl
  refine ⟨seg_blk h 6 _ ?_ hn, hok⟩
  clear h hok hn
  induction fs with
  | nil => rfl
  | cons f r ih => rw [List.flatMap_cons, List.length_append, ih, List.length_cons, Nat.succ_mul]; show 6 + _ = _; omega
theorem schema_one {w : World} {g : Nat} {name : ByteArray} {fs : List Fld} {fv : Value} {T : TypeId} (h : Blk w g [.string name, fv] T) (hn : name.size ≤ 140737488355328) (hf : FieldsAt w fv fs) : SchemaAt w (.slice (some ⟨g, 0, none⟩) 1 1) [⟨name, fs⟩] := by
  refine ⟨[fv], rfl, seg_blk h 2 1 rfl (by omega), by simpa using hn, fun i hi => ?_⟩
  have : i = 0 := by simp at hi; omega
  subst this
  exact hf
end Go.Proofs.YtfimpmennkfjcaaGreatDoor
namespace Go.Proofs.YtfimpmennkfjcaaGreatDoor
open Go.RowKit
/-- A []string of the call's own. -/
def StrsOwn (w : World) (base : Nat) (v : Value) (l : List (List UInt8)) : Prop := w.ownsRow base 9 1 v l.length (l.map strV)
theorem info_string : (Tryz.prog.info? 9).map (fun i => (i.zero, i.size, i.bytes)) = some (some (.string ⟨#[]⟩), 1, 16) := by kernel_rfl
theorem under_strl : Tryz.prog.underlying 25 = some (.slice 9) := Tryz.underlying25
theorem StrsOwn.form {w : World} {base : Nat} {v : Value} {l : List (List UInt8)} (h : StrsOwn w base v l) : ∃ a c, v = .slice a l.length c := by
  rcases h.2 with ⟨h1, h2⟩ | ⟨g, cap, cur, hv, -⟩
  · exact ⟨none, 0, by rw [h1, h2]⟩
  · exact ⟨_, _, hv⟩
theorem StrsOwn.strs {w : World} {base : Nat} {v : Value} {l : List (List UInt8)} (h : StrsOwn w base v l) (hn : l.length ≤ 140737488355328) (hl : ∀ t ∈ l, t.length ≤ 140737488355328) : StrsAt w v l :=
  ⟨row_seg h hn, hl⟩
/-- one more string, laid in a block of its own ahead of the append -/
theorem StrsOwn.one {W : World} {base : Nat} {v : Value} {l : List (List UInt8)} (h : StrsOwn W base v l) (t : List UInt8) (hn : l.length + 1 ≤ 1099511627777) (hB : base ≤ W.heap.size) :
    ∃ v' w', (Builtin.append_ #[25, 25] 25 #[v, .slice (some ⟨W.heap.size, 0, none⟩) 1 1]).run Tryz.prog (W.alloc (.cells #[strV t] 9)) = .ok v' w' ∧ StrsOwn w' base v' (l ++ [t]) ∧ W.grownBy w' v.ownBlock := by
  have hA : Below W.heap.size W (W.alloc (.cells #[strV t] 9)) := (Below.refl _ _).alloc (Nat.le_refl _) _
  have hx : Seg (W.alloc (.cells #[strV t] 9)) (.slice (some ⟨W.heap.size, 0, none⟩) 1 1) 1 1 [strV t] := seg_blk (Blk.new W [strV t] _) 1 1 rfl (by omega)
  have h' : (W.alloc (.cells #[strV t] 9)).ownsRow base 9 1 v l.length (l.map strV) := row_keep h fun b _ _ he => hA.block b (Array.getElem?_eq_some_iff.1 he).1
  obtain ⟨v', w', h1, h2, h3, -⟩ := seg_append (P := Tryz.prog) _ base 25 25 9 (.string ⟨#[]⟩) 1 16 under_strl info_string rfl (by decide) v _ l.length 1 _ _ h' hx (by intro u hu; simp at hu; subst hu; rfl) (by omega) (by omega) (by simp; omega)
  refine ⟨v', w', h1, ?_, ?_⟩
  · unfold StrsOwn
    rw [List.length_append, List.map_append]
    exact h2
  · exact ⟨h3.os, h3.tape, h3.output, Nat.le_trans (by simp) h3.size, fun k hk hr => (h3.block k (by simp; omega) hr).trans (Below.heap_alloc W _ k hk)⟩
end Go.Proofs.YtfimpmennkfjcaaGreatDoor
