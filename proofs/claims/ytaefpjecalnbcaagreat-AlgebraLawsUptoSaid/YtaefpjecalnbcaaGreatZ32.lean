/- slices.Equal of strings and of words; slices.EqualFunc of messages and of values: all2. The function handed in tells S of each pair and changes nothing that was there. tree.Same of any two meanings: sameB. slices.Grow of nil, slices.Concat of two lists of ways; mask.Union. At most 2^40 ways. mask.Meet. -/
import Derived.Test.YtaefpjecalnbcaaGreatZ07
import Derived.Test.YtaefpjecalnbcaaGreatZ10
import Derived.Test.YtaefpjecalnbcaaGreatZ26
import Derived.Test.YtaefpjecalnbcaaGreatZ29
import Derived.Lib.AppendZerosOnto
namespace Go.Proofs.YtaefpjecalnbcaaGreat
open Go.RowKit
set_option maxRecDepth 100000 in
set_option maxHeartbeats 4000000 in
theorem equal_str {w : World} {v u : Value} {l m : List (List UInt8)} (h : StrsAt w v l) (hu : StrsAt w u m) :
    Calls Tryz.prog 44 #[v, u] w fun e w' => e = .returned (.bool (decide (l = m))) ∧ Drew w w' := by
  obtain ⟨-, a, c, rfl, -, hat⟩ := h.open
  obtain ⟨-, a2, c2, rfl, -, hbt⟩ := hu.open
  obtain ⟨n, HN⟩ : ∃ n, Hid (n = l.length) := ⟨_, rfl⟩
  obtain ⟨n2, HN2⟩ : ∃ n, Hid (n = m.length) := ⟨_, rfl⟩
  have hlen : n ≤ 140737488355328 := by rw [HN.out]; exact h.open.1
  have hlen2 : n2 ≤ 140737488355328 := by rw [HN2.out]; exact hu.open.1
  rw [← HN.out, ← HN2.out]
  obtain ⟨z, HZ⟩ : ∃ z, Hid (z = decide (l = m)) := ⟨_, rfl⟩
  rw [← HZ.out]
  have HAT := hid hat
  have HBT := hid hbt
  clear hat hbt h hu
  by_cases hnn : n = n2
  · subst hnn
    go_enter Tryz.func44, Tryz.ntmps44
    go_wp2_with fail
    go_loopw [13] (fun v8 wr => ∃ k : Nat, k ≤ n ∧ v8 = .int .i64 k ∧ Hid (decide (l.drop k = m.drop k) = z) ∧ (∃ kw, wr = w.drewN kw)) (fun v8 _ => n - (intOf v8).toNat)
    case atStart => exact ⟨0, by omega, rfl, by rw [HZ.out]; rfl, 0, rfl⟩
    case round =>
      obtain ⟨k, hk, rfl, HK, kw, rfl⟩ := hrel
      by_cases hlt : k < n
      · have hat := HAT.out
        have hbt := HBT.out
        have hxi : l[k]? = some (l[k]'(by rw [← HN.out]; exact hlt)) := List.getElem?_eq_getElem _
        generalize l[k]'(by rw [← HN.out]; exact hlt) = x at hxi
        have hyi : m[k]? = some (m[k]'(by rw [← HN2.out]; exact hlt)) := List.getElem?_eq_getElem _
        generalize m[k]'(by rw [← HN2.out]; exact hlt) = y at hyi
        obtain ⟨-, b, o, ha, g0⟩ := hat k x hxi
        obtain ⟨-, b2, o2, ha2, g02⟩ := hbt k y hyi
        clear hat hbt
        unfold strV at g0 g02
        have HST := hid (drop_eq l m k x y hxi hyi)
        have hix := index_run1 Tryz.underlying25 size_str ha k hlt (cap := c)
        have hix2 := index_run1 Tryz.underlying25 size_str ha2 k hlt (cap := c2)
        clear ha ha2 hxi hyi
        by_cases hp : x = y
        · have HK2 : Hid (decide (l.drop (k + 1) = m.drop (k + 1)) = z) := by rw [Hid, ← HK.out, HST.out, decide_eq_true hp]; rfl
          have hb1 : ((⟨x.toArray⟩ : ByteArray).toList == (⟨y.toArray⟩ : ByteArray).toList) = true := by rw [bytes_beq]; simpa using hp
          have hb2 : ((⟨x.toArray⟩ : ByteArray).toList != (⟨y.toArray⟩ : ByteArray).toList) = false := by rw [bne, hb1]; rfl
          generalize (⟨x.toArray⟩ : ByteArray) = X at *
          generalize (⟨y.toArray⟩ : ByteArray) = Y at *
          clear hp HST HK
          go_wp2_with fail
          go_quiet (fail)
          go_wp2_with fail
          go_roundw
          case rel => exact ⟨k + 1, by omega, by go_num, HK2, _, rfl⟩
          case measure => simp [intOf]; omega
        · have hz : z = false := by rw [← HK.out, HST.out, decide_eq_false hp]; rfl
          subst hz
          have hb1 : ((⟨x.toArray⟩ : ByteArray).toList == (⟨y.toArray⟩ : ByteArray).toList) = false := by rw [bytes_beq]; simpa using hp
          have hb2 : ((⟨x.toArray⟩ : ByteArray).toList != (⟨y.toArray⟩ : ByteArray).toList) = true := by rw [bne, hb1]; rfl
          generalize (⟨x.toArray⟩ : ByteArray) = X at *
          generalize (⟨y.toArray⟩ : ByteArray) = Y at *
          clear hp HST HK
          go_wp2_with fail
          go_quiet (fail)
          go_wp2_with fail
          go_ret
          exact ⟨rfl, _, World.drewN_drewN _ _ _⟩
      · have hz : z = true := by
          rw [← HK.out, List.drop_of_length_le (by rw [← HN.out]; omega), List.drop_of_length_le (by rw [← HN2.out]; omega)]; rfl
        subst hz
        go_wp2_with fail
        go_ret
        exact ⟨rfl, _, rfl⟩
  · have hz : z = false := by
      rw [HZ.out]
      refine decide_eq_false ?_
      rintro rfl
      exact hnn (HN.out.trans HN2.out.symm)
    subst hz
    have e1 : decide ((n : Int) = n2) = false := decide_eq_false (by omega)
    have e2 : ((n : Int) == n2) = false := by simp; omega
    have e3 : (n == n2) = false := by simp; omega
    clear hnn
    go_enter Tryz.func44, Tryz.ntmps44
    go_wp2_with fail
    go_ret
    exact ⟨rfl, 0, rfl⟩
set_option maxRecDepth 100000 in
set_option maxHeartbeats 4000000 in
theorem equal_u64 {w : World} {v u : Value} {l m : List Nat} (h : WordsAt w v l) (hu : WordsAt w u m) :
    Calls Tryz.prog 72 #[v, u] w fun e w' => e = .returned (.bool (decide (l = m))) ∧ Drew w w' := by
  obtain ⟨-, a, c, rfl, -, hat⟩ := h.open
  obtain ⟨-, a2, c2, rfl, -, hbt⟩ := hu.open
  obtain ⟨n, HN⟩ : ∃ n, Hid (n = l.length) := ⟨_, rfl⟩
  obtain ⟨n2, HN2⟩ : ∃ n, Hid (n = m.length) := ⟨_, rfl⟩
  have hlen : n ≤ 140737488355328 := by rw [HN.out]; exact h.open.1
  have hlen2 : n2 ≤ 140737488355328 := by rw [HN2.out]; exact hu.open.1
  rw [← HN.out, ← HN2.out]
  obtain ⟨z, HZ⟩ : ∃ z, Hid (z = decide (l = m)) := ⟨_, rfl⟩
  rw [← HZ.out]
  have HAT := hid hat
  have HBT := hid hbt
  clear hat hbt h hu
  by_cases hnn : n = n2
  · subst hnn
    go_enter Tryz.func72, Tryz.ntmps72
    go_wp2_with fail
    go_loopw [13] (fun v8 wr => ∃ k : Nat, k ≤ n ∧ v8 = .int .i64 k ∧ Hid (decide (l.drop k = m.drop k) = z) ∧ (∃ kw, wr = w.drewN kw)) (fun v8 _ => n - (intOf v8).toNat)
    case atStart => exact ⟨0, by omega, rfl, by rw [HZ.out]; rfl, 0, rfl⟩
    case round =>
      obtain ⟨k, hk, rfl, HK, kw, rfl⟩ := hrel
      by_cases hlt : k < n
      · have hat := HAT.out
        have hbt := HBT.out
        have hxi : l[k]? = some (l[k]'(by rw [← HN.out]; exact hlt)) := List.getElem?_eq_getElem _
        generalize l[k]'(by rw [← HN.out]; exact hlt) = x at hxi
        have hyi : m[k]? = some (m[k]'(by rw [← HN2.out]; exact hlt)) := List.getElem?_eq_getElem _
        generalize m[k]'(by rw [← HN2.out]; exact hlt) = y at hyi
        obtain ⟨-, b, o, ha, g0⟩ := hat k x hxi
        obtain ⟨-, b2, o2, ha2, g02⟩ := hbt k y hyi
        clear hat hbt
        unfold wordV at g0 g02
        have HST := hid (drop_eq l m k x y hxi hyi)
        have hix := index_run1 Tryz.underlying64 size_u64 ha k hlt (cap := c)
        have hix2 := index_run1 Tryz.underlying64 size_u64 ha2 k hlt (cap := c2)
        clear ha ha2 hxi hyi
        by_cases hp : x = y
        · have HK2 : Hid (decide (l.drop (k + 1) = m.drop (k + 1)) = z) := by rw [Hid, ← HK.out, HST.out, decide_eq_true hp]; rfl
          have hb1 : ((x : Int) == (y : Int)) = true := by simpa using (by omega : ((x : Int) = (y : Int)))
          have hb2 : ((x : Int) != (y : Int)) = false := by rw [bne, hb1]; rfl
          clear hp HST HK
          go_wp2_with fail
          go_quiet (fail)
          go_wp2_with fail
          go_roundw
          case rel => exact ⟨k + 1, by omega, by go_num, HK2, _, rfl⟩
          case measure => simp [intOf]; omega
        · have hz : z = false := by rw [← HK.out, HST.out, decide_eq_false hp]; rfl
          subst hz
          have hb1 : ((x : Int) == (y : Int)) = false := by simpa using (by omega : ¬((x : Int) = (y : Int)))
          have hb2 : ((x : Int) != (y : Int)) = true := by rw [bne, hb1]; rfl
          clear hp HST HK
          go_wp2_with fail
          go_quiet (fail)
          go_wp2_with fail
          go_ret
          exact ⟨rfl, _, World.drewN_drewN _ _ _⟩
      · have hz : z = true := by
          rw [← HK.out, List.drop_of_length_le (by rw [← HN.out]; omega), List.drop_of_length_le (by rw [← HN2.out]; omega)]; rfl
        subst hz
        go_wp2_with fail
        go_ret
        exact ⟨rfl, _, rfl⟩
  · have hz : z = false := by
      rw [HZ.out]
      refine decide_eq_false ?_
      rintro rfl
      exact hnn (HN.out.trans HN2.out.symm)
    subst hz
    have e1 : decide ((n : Int) = n2) = false := decide_eq_false (by omega)
    have e2 : ((n : Int) == n2) = false := by simp; omega
    have e3 : (n == n2) = false := by simp; omega
    clear hnn
    go_enter Tryz.func72, Tryz.ntmps72
    go_wp2_with fail
    go_ret
    exact ⟨rfl, 0, rfl⟩
set_option maxRecDepth 100000 in
set_option maxHeartbeats 4000000 in
theorem equalFunc_msg {d d2 : Nat} {w : World} {v u : Value} {l : List (M d)} {m : List (M d2)} (h : SubsAt (MsgAt d) w v l) (hu : SubsAt (MsgAt d2) w u m) (F : Nat) (S : (M d) → (M d2) → Bool) (hcf : ∀ (args : Array Value) (w : World), (callFunc F args).run Tryz.prog w = .ok (.enter F args) w)
    (hcl : ∀ x ∈ l, ∀ y ∈ m, ∀ (xv yv : Value) (wr : World), MsgAt d w xv x → MsgAt d2 w yv y → Below w.heap.size w wr → Calls Tryz.prog F #[xv, yv] wr fun e w' => e = .returned (.bool (S x y)) ∧ Below wr.heap.size wr w') :
    Calls Tryz.prog 73 #[v, u, .func (.func F) #[] #[]] w fun e w' => e = .returned (.bool (all2 S l m)) ∧ Below w.heap.size w w' := by
  obtain ⟨-, a, c, rfl, -, hat⟩ := h.open
  obtain ⟨-, a2, c2, rfl, -, hbt⟩ := hu.open
  obtain ⟨n, HN⟩ : ∃ n, Hid (n = l.length) := ⟨_, rfl⟩
  obtain ⟨n2, HN2⟩ : ∃ n, Hid (n = m.length) := ⟨_, rfl⟩
  have hlen : n ≤ 140737488355328 := by rw [HN.out]; exact h.open.1
  have hlen2 : n2 ≤ 140737488355328 := by rw [HN2.out]; exact hu.open.1
  rw [← HN.out, ← HN2.out]
  obtain ⟨z, HZ⟩ : ∃ z, Hid (z = all2 S l m) := ⟨_, rfl⟩
  rw [← HZ.out]
  have HAT := hid hat
  have HBT := hid hbt
  have HCL := hid hcl
  clear hat hbt hcl h hu
  by_cases hnn : n = n2
  · subst hnn
    go_enter Tryz.func73, Tryz.ntmps73
    go_wp2_with fail
    go_loopw [17] (fun v8 wr => ∃ k : Nat, k ≤ n ∧ v8 = .int .i64 k ∧ Hid (all2 S (l.drop k) (m.drop k) = z) ∧ Hid (Below w.heap.size w wr)) (fun v8 _ => n - (intOf v8).toNat)
    case atStart => exact ⟨0, by omega, rfl, by rw [HZ.out]; rfl, Below.refl _ _⟩
    case round =>
      obtain ⟨k, hk, rfl, HK, HB⟩ := hrel
      by_cases hlt : k < n
      · have hat := HAT.out
        have hbt := HBT.out
        have hxi : l[k]? = some (l[k]'(by rw [← HN.out]; exact hlt)) := List.getElem?_eq_getElem _
        generalize l[k]'(by rw [← HN.out]; exact hlt) = x at hxi
        have hyi : m[k]? = some (m[k]'(by rw [← HN2.out]; exact hlt)) := List.getElem?_eq_getElem _
        generalize m[k]'(by rw [← HN2.out]; exact hlt) = y at hyi
        obtain ⟨b, o, v1, v2, ha, g0, g1, hM⟩ := hat k x hxi
        obtain ⟨b2, o2, u1, u2, ha2, f0, f1, hM2⟩ := hbt k y hyi
        clear hat hbt
        obtain ⟨p1, i1, j1, p2, i2, j2, e1⟩ := formM hM
        cases e1
        obtain ⟨q1, s1, t1, q2, s2, t2, e1⟩ := formM hM2
        cases e1
        have HXX := hid hM
        have HYY := hid hM2
        clear hM hM2
        replace g0 := below_keeps HB.out _ _ g0
        replace g1 := below_keeps HB.out _ _ g1
        replace f0 := below_keeps HB.out _ _ f0
        replace f1 := below_keeps HB.out _ _ f1
        have hst := hid (all2_drop S l m k x y hxi hyi)
        have hix := index_run Tryz.underlying65 size_msg ha k hlt (cap := c)
        have hix2 := index_run Tryz.underlying65 size_msg ha2 k hlt (cap := c2)
        have hbl : b < wr.heap.size := World.block_lt_of_cell? wr _ g0
        have hbl2 : b2 < wr.heap.size := World.block_lt_of_cell? wr _ f0
        have HMX := hid (List.mem_of_getElem? hxi)
        have HMY := hid (List.mem_of_getElem? hyi)
        clear ha ha2 hxi hyi
        go_wp2_with fail
        have hcl := HCL.out
        refine (hcl x HMX.out y HMY.out _ _ _ HXX.out HYY.out (HB.out.trans (Below.mono (B := wr.heap.size) (by (repeat (first | with_reducible exact Below.refl _ _ | with_reducible refine Below.setCell ?_ (by first | omega | (simp; omega) | (simp; done)) _ | with_reducible refine Below.alloc ?_ (by first | omega | (simp; omega) | (simp; done)) _ | with_reducible refine below_drewN ?_ _ | with_reducible refine Below.drew ?_))) HB.out.size))).mono ?_
        rintro e w5 ⟨rfl, hb5⟩
        clear hcl
        have HB5 : Hid (Below w.heap.size w w5) := (HB.out.trans (Below.mono (B := wr.heap.size) (by (repeat (first | with_reducible exact Below.refl _ _ | with_reducible refine Below.setCell ?_ (by first | omega | (simp; omega) | (simp; done)) _ | with_reducible refine Below.alloc ?_ (by first | omega | (simp; omega) | (simp; done)) _ | with_reducible refine below_drewN ?_ _ | with_reducible refine Below.drew ?_))) HB.out.size)).trans (hb5.mono (by simp; have := HB.out.size; omega))
        clear hb5
        cases hp : S x y with
        | false =>
          have hz : z = false := by rw [← HK.out, hst.out, hp]; rfl
          subst hz
          clear hp
          go_wp2
          go_ret
          exact ⟨rfl, HB5.out⟩
        | true =>
          have HK2 : Hid (all2 S (l.drop (k + 1)) (m.drop (k + 1)) = z) := by rw [Hid, ← HK.out, hst.out, hp]; rfl
          clear hp
          go_wp2
          go_roundw
          case rel => exact ⟨k + 1, by omega, by go_num, HK2, HB5⟩
          case measure => simp [intOf]; omega
      · have hz : z = true := by
          rw [← HK.out, List.drop_of_length_le (by rw [← HN.out]; omega), List.drop_of_length_le (by rw [← HN2.out]; omega)]; rfl
        subst hz
        go_wp2
        go_ret
        exact ⟨rfl, HB.out⟩
  · have hz : z = false := by
      rw [HZ.out]
      exact all2_len S l m (by rw [← HN.out, ← HN2.out]; exact hnn)
    subst hz
    go_enter Tryz.func73, Tryz.ntmps73
    go_wp2
    go_ret
    exact ⟨rfl, Below.refl _ _⟩
set_option maxRecDepth 100000 in
set_option maxHeartbeats 4000000 in
theorem equalFunc_val {d d2 : Nat} {w : World} {v u : Value} {l : List (Val (M d))} {m : List (Val (M d2))} (h : ValsAt (MsgAt d) w v l) (hu : ValsAt (MsgAt d2) w u m) (F : Nat) (S : (Val (M d)) → (Val (M d2)) → Bool) (hcf : ∀ (args : Array Value) (w : World), (callFunc F args).run Tryz.prog w = .ok (.enter F args) w)
    (hcl : ∀ x ∈ l, ∀ y ∈ m, ∀ (xv yv : Value) (wr : World), ValAt (MsgAt d) w xv x → ValAt (MsgAt d2) w yv y → Below w.heap.size w wr → Calls Tryz.prog F #[xv, yv] wr fun e w' => e = .returned (.bool (S x y)) ∧ Below wr.heap.size wr w') :
    Calls Tryz.prog 45 #[v, u, .func (.func F) #[] #[]] w fun e w' => e = .returned (.bool (all2 S l m)) ∧ Below w.heap.size w w' := by
  obtain ⟨-, a, c, rfl, -, hat⟩ := h.open
  obtain ⟨-, a2, c2, rfl, -, hbt⟩ := hu.open
  obtain ⟨n, HN⟩ : ∃ n, Hid (n = l.length) := ⟨_, rfl⟩
  obtain ⟨n2, HN2⟩ : ∃ n, Hid (n = m.length) := ⟨_, rfl⟩
  have hlen : n ≤ 140737488355328 := by rw [HN.out]; exact h.open.1
  have hlen2 : n2 ≤ 140737488355328 := by rw [HN2.out]; exact hu.open.1
  rw [← HN.out, ← HN2.out]
  obtain ⟨z, HZ⟩ : ∃ z, Hid (z = all2 S l m) := ⟨_, rfl⟩
  rw [← HZ.out]
  have HAT := hid hat
  have HBT := hid hbt
  have HCL := hid hcl
  clear hat hbt hcl h hu
  by_cases hnn : n = n2
  · subst hnn
    go_enter Tryz.func45, Tryz.ntmps45
    go_wp2_with fail
    go_loopw [17] (fun v8 wr => ∃ k : Nat, k ≤ n ∧ v8 = .int .i64 k ∧ Hid (all2 S (l.drop k) (m.drop k) = z) ∧ Hid (Below w.heap.size w wr)) (fun v8 _ => n - (intOf v8).toNat)
    case atStart => exact ⟨0, by omega, rfl, by rw [HZ.out]; rfl, Below.refl _ _⟩
    case round =>
      obtain ⟨k, hk, rfl, HK, HB⟩ := hrel
      by_cases hlt : k < n
      · have hat := HAT.out
        have hbt := HBT.out
        have hxi : l[k]? = some (l[k]'(by rw [← HN.out]; exact hlt)) := List.getElem?_eq_getElem _
        generalize l[k]'(by rw [← HN.out]; exact hlt) = x at hxi
        have hyi : m[k]? = some (m[k]'(by rw [← HN2.out]; exact hlt)) := List.getElem?_eq_getElem _
        generalize m[k]'(by rw [← HN2.out]; exact hlt) = y at hyi
        obtain ⟨b, o, v1, v2, v3, ha, g0, g1, g2, g3, hM⟩ := hat k x hxi
        obtain ⟨b2, o2, u1, u2, u3, ha2, f0, f1, f2, f3, hM2⟩ := hbt k y hyi
        clear hat hbt
        obtain ⟨p1, i1, j1, p2, i2, j2, p3, i3, j3, rfl, rfl, rfl⟩ := formV hM
        obtain ⟨q1, s1, t1, q2, s2, t2, q3, s3, t3, rfl, rfl, rfl⟩ := formV hM2
        have HXX := hid hM
        have HYY := hid hM2
        clear hM hM2
        replace g0 := below_keeps HB.out _ _ g0
        replace g1 := below_keeps HB.out _ _ g1
        replace g2 := below_keeps HB.out _ _ g2
        replace g3 := below_keeps HB.out _ _ g3
        replace f0 := below_keeps HB.out _ _ f0
        replace f1 := below_keeps HB.out _ _ f1
        replace f2 := below_keeps HB.out _ _ f2
        replace f3 := below_keeps HB.out _ _ f3
        have hst := hid (all2_drop S l m k x y hxi hyi)
        have hix := index_run Tryz.underlying24 size_val ha k hlt (cap := c)
        have hix2 := index_run Tryz.underlying24 size_val ha2 k hlt (cap := c2)
        have hbl : b < wr.heap.size := World.block_lt_of_cell? wr _ g0
        have hbl2 : b2 < wr.heap.size := World.block_lt_of_cell? wr _ f0
        have HMX := hid (List.mem_of_getElem? hxi)
        have HMY := hid (List.mem_of_getElem? hyi)
        clear ha ha2 hxi hyi
        generalize x.num = xn at *
        generalize y.num = yn at *
        go_wp2_with fail
        have hcl := HCL.out
        refine (hcl x HMX.out y HMY.out _ _ _ HXX.out HYY.out (HB.out.trans (Below.mono (B := wr.heap.size) (by (repeat (first | with_reducible exact Below.refl _ _ | with_reducible refine Below.setCell ?_ (by first | omega | (simp; omega) | (simp; done)) _ | with_reducible refine Below.alloc ?_ (by first | omega | (simp; omega) | (simp; done)) _ | with_reducible refine below_drewN ?_ _ | with_reducible refine Below.drew ?_))) HB.out.size))).mono ?_
        rintro e w5 ⟨rfl, hb5⟩
        clear hcl
        have HB5 : Hid (Below w.heap.size w w5) := (HB.out.trans (Below.mono (B := wr.heap.size) (by (repeat (first | with_reducible exact Below.refl _ _ | with_reducible refine Below.setCell ?_ (by first | omega | (simp; omega) | (simp; done)) _ | with_reducible refine Below.alloc ?_ (by first | omega | (simp; omega) | (simp; done)) _ | with_reducible refine below_drewN ?_ _ | with_reducible refine Below.drew ?_))) HB.out.size)).trans (hb5.mono (by simp; have := HB.out.size; omega))
        clear hb5
        cases hp : S x y with
        | false =>
          have hz : z = false := by rw [← HK.out, hst.out, hp]; rfl
          subst hz
          clear hp
          go_wp2
          go_ret
          exact ⟨rfl, HB5.out⟩
        | true =>
          have HK2 : Hid (all2 S (l.drop (k + 1)) (m.drop (k + 1)) = z) := by rw [Hid, ← HK.out, hst.out, hp]; rfl
          clear hp
          go_wp2
          go_roundw
          case rel => exact ⟨k + 1, by omega, by go_num, HK2, HB5⟩
          case measure => simp [intOf]; omega
      · have hz : z = true := by
          rw [← HK.out, List.drop_of_length_le (by rw [← HN.out]; omega), List.drop_of_length_le (by rw [← HN2.out]; omega)]; rfl
        subst hz
        go_wp2
        go_ret
        exact ⟨rfl, HB.out⟩
  · have hz : z = false := by
      rw [HZ.out]
      exact all2_len S l m (by rw [← HN.out, ← HN2.out]; exact hnn)
    subst hz
    go_enter Tryz.func45, Tryz.ntmps45
    go_wp2
    go_ret
    exact ⟨rfl, Below.refl _ _⟩
end Go.Proofs.YtaefpjecalnbcaaGreat
namespace Go.Proofs.YtaefpjecalnbcaaGreat
open Go.RowKit
/-- the contract of tree.Same -/
def SameOk (a b : Nat) : Prop := ∀ (w : World) (v u : Value) (x : M a) (y : M b), MsgAt a w v x → MsgAt b w u y →
  Calls Tryz.prog 22 #[v, u] w fun e w' => e = .returned (.bool (sameB a b x y)) ∧ Below w.heap.size w w'
set_option maxRecDepth 100000 in
set_option maxHeartbeats 4000000 in
theorem tree_same_of {a b : Nat} (ih : SameOk a b) {w : World} {v u : Value} {x : Val (M a)} {y : Val (M b)} (h : ValAt (MsgAt a) w v x) (hu : ValAt (MsgAt b) w u y) :
    Calls Tryz.prog 46 #[v, u] w fun e w' => e = .returned (.bool (sameV (sameB a b) x y)) ∧ Below w.heap.size w w' := by
  obtain ⟨wv, tv, sv, rfl, hnum, hW, hT, hS⟩ := h
  obtain ⟨wv2, tv2, sv2, rfl, hnum2, hW2, hT2, hS2⟩ := hu
  obtain ⟨-, wa, wc, e1, -, -⟩ := hW.open
  obtain ⟨-, ta, tc, e2, -, -⟩ := hT.open
  obtain ⟨-, sa, sc, e3, -, -⟩ := hS.open
  obtain ⟨-, wa2, wc2, e4, -, -⟩ := hW2.open
  obtain ⟨-, ta2, tc2, e5, -, -⟩ := hT2.open
  obtain ⟨-, sa2, sc2, e6, -, -⟩ := hS2.open
  have HQ := hid fun W (hB0 : Below w.heap.size w W) => equal_u64 (hW.keep (below_keeps hB0)) (hW2.keep (below_keeps hB0))
  have HT := hid fun W (hB0 : Below w.heap.size w W) => equal_str (hT.keep (below_keeps hB0)) (hT2.keep (below_keeps hB0))
  have HS := hid fun W (hB0 : Below w.heap.size w W) => equalFunc_msg (hS.keep (below_keeps hB0) fun _ _ h => MsgAt.below h hB0) (hS2.keep (below_keeps hB0) fun _ _ h => MsgAt.below h hB0) 22 (sameB a b) (fun args w => by simp [go_sem])
    fun p _ q _ pv qv wr hp hq hb => ih wr pv qv p q (hp.below hb) (hq.below hb)
  obtain ⟨R, HR⟩ : ∃ R, Hid (R = sameV (sameB a b) x y) := ⟨_, rfl⟩
  rw [← HR.out]
  obtain ⟨q1, HQ1⟩ : ∃ q, Hid (q = decide (x.words = y.words)) := ⟨_, rfl⟩
  obtain ⟨q2, HQ2⟩ : ∃ q, Hid (q = decide (x.texts = y.texts)) := ⟨_, rfl⟩
  obtain ⟨q3, HQ3⟩ : ∃ q, Hid (q = all2 (sameB a b) x.subs y.subs) := ⟨_, rfl⟩
  rw [← HQ1.out] at HQ
  rw [← HQ2.out] at HT
  rw [← HQ3.out] at HS
  have hR : R = (decide (x.num = y.num) && q1 && q2 && q3) := by
    rw [HR.out, sameV, HQ1.out, HQ2.out, HQ3.out, Bool.decide_and, Bool.decide_and]
    simp [Bool.and_assoc]
  subst e1
  subst e2
  subst e3
  subst e4
  subst e5
  subst e6
  generalize x.words.length = n1 at *
  generalize x.texts.length = n2 at *
  generalize x.subs.length = n3 at *
  generalize y.words.length = m1 at *
  generalize y.texts.length = m2 at *
  generalize y.subs.length = m3 at *
  generalize x.num = xn at *
  generalize y.num = yn at *
  clear hW hT hS hW2 hT2 hS2 ih HQ1 HQ2 HQ3 HR
  clear x y
  by_cases hn : xn = yn
  · subst hn
    cases q1 with
    | false =>
      have hr : R = false := by rw [hR]; simp
      clear hR
      subst hr
      go_enter Tryz.func46, Tryz.ntmps46
      go_wp2_with fail
      refine (HQ.out _ (by (repeat (first | with_reducible exact Below.refl _ _ | with_reducible refine Below.setCell ?_ (by first | omega | (simp; omega) | (simp; done)) _ | with_reducible refine Below.alloc ?_ (by first | omega | (simp; omega) | (simp; done)) _ | with_reducible refine below_drewN ?_ _ | with_reducible refine Below.drew ?_)))).mono ?_
      rintro e w1 ⟨rfl, kw, rfl⟩
      go_wp2_with fail
      go_ret
      exact ⟨rfl, by (repeat (first | with_reducible exact Below.refl _ _ | with_reducible refine Below.setCell ?_ (by first | omega | (simp; omega) | (simp; done)) _ | with_reducible refine Below.alloc ?_ (by first | omega | (simp; omega) | (simp; done)) _ | with_reducible refine below_drewN ?_ _ | with_reducible refine Below.drew ?_))⟩
    | true =>
      cases q2 with
      | false =>
        have hr : R = false := by rw [hR]; simp
        clear hR
        subst hr
        go_enter Tryz.func46, Tryz.ntmps46
        go_wp2_with fail
        refine (HQ.out _ (by (repeat (first | with_reducible exact Below.refl _ _ | with_reducible refine Below.setCell ?_ (by first | omega | (simp; omega) | (simp; done)) _ | with_reducible refine Below.alloc ?_ (by first | omega | (simp; omega) | (simp; done)) _ | with_reducible refine below_drewN ?_ _ | with_reducible refine Below.drew ?_)))).mono ?_
        rintro e w1 ⟨rfl, kw, rfl⟩
        go_wp2_with fail
        refine (HT.out _ (by (repeat (first | with_reducible exact Below.refl _ _ | with_reducible refine Below.setCell ?_ (by first | omega | (simp; omega) | (simp; done)) _ | with_reducible refine Below.alloc ?_ (by first | omega | (simp; omega) | (simp; done)) _ | with_reducible refine below_drewN ?_ _ | with_reducible refine Below.drew ?_)))).mono ?_
        rintro e w1 ⟨rfl, kw, rfl⟩
        go_wp2_with fail
        go_ret
        exact ⟨rfl, by (repeat (first | with_reducible exact Below.refl _ _ | with_reducible refine Below.setCell ?_ (by first | omega | (simp; omega) | (simp; done)) _ | with_reducible refine Below.alloc ?_ (by first | omega | (simp; omega) | (simp; done)) _ | with_reducible refine below_drewN ?_ _ | with_reducible refine Below.drew ?_))⟩
      | true =>
        have hr : R = q3 := by rw [hR]; simp
        clear hR
        subst hr
        go_enter Tryz.func46, Tryz.ntmps46
        go_wp2_with fail
        refine (HQ.out _ (by (repeat (first | with_reducible exact Below.refl _ _ | with_reducible refine Below.setCell ?_ (by first | omega | (simp; omega) | (simp; done)) _ | with_reducible refine Below.alloc ?_ (by first | omega | (simp; omega) | (simp; done)) _ | with_reducible refine below_drewN ?_ _ | with_reducible refine Below.drew ?_)))).mono ?_
        rintro e w1 ⟨rfl, kw, rfl⟩
        go_wp2_with fail
        refine (HT.out _ (by (repeat (first | with_reducible exact Below.refl _ _ | with_reducible refine Below.setCell ?_ (by first | omega | (simp; omega) | (simp; done)) _ | with_reducible refine Below.alloc ?_ (by first | omega | (simp; omega) | (simp; done)) _ | with_reducible refine below_drewN ?_ _ | with_reducible refine Below.drew ?_)))).mono ?_
        rintro e w1 ⟨rfl, kw, rfl⟩
        go_wp2_with fail
        refine (HS.out _ (by (repeat (first | with_reducible exact Below.refl _ _ | with_reducible refine Below.setCell ?_ (by first | omega | (simp; omega) | (simp; done)) _ | with_reducible refine Below.alloc ?_ (by first | omega | (simp; omega) | (simp; done)) _ | with_reducible refine below_drewN ?_ _ | with_reducible refine Below.drew ?_)))).mono ?_
        rintro e w1 ⟨rfl, hb⟩
        go_wp2_with fail
        go_ret
        exact ⟨rfl, below_step (w1 := _) (by (repeat (first | with_reducible exact Below.refl _ _ | with_reducible refine Below.setCell ?_ (by first | omega | (simp; omega) | (simp; done)) _ | with_reducible refine Below.alloc ?_ (by first | omega | (simp; omega) | (simp; done)) _ | with_reducible refine below_drewN ?_ _ | with_reducible refine Below.drew ?_))) hb (by simp; omega)⟩
  · have hr : R = false := by rw [hR, decide_eq_false hn]; simp
    clear hR
    subst hr
    have e1 : ((xn : Int) == yn) = false := by simpa using hn
    go_enter Tryz.func46, Tryz.ntmps46
    go_wp2_with fail
    go_ret
    exact ⟨rfl, by (repeat (first | with_reducible exact Below.refl _ _ | with_reducible refine Below.setCell ?_ (by first | omega | (simp; omega) | (simp; done)) _ | with_reducible refine Below.alloc ?_ (by first | omega | (simp; omega) | (simp; done)) _ | with_reducible refine below_drewN ?_ _ | with_reducible refine Below.drew ?_))⟩
set_option maxRecDepth 100000 in
set_option maxHeartbeats 4000000 in
theorem tree_Same : ∀ (a b : Nat), SameOk a b := by
  intro a
  induction a with
  | zero => exact fun _ _ _ _ _ _ h _ => h.elim
  | succ a ih =>
    intro b
    cases b with
    | zero => exact fun _ _ _ _ _ _ h => h.elim
    | succ b =>
    intro w v u x y h hu
    obtain ⟨vv, uv, rfl, hV, hU⟩ := h
    obtain ⟨vv2, uv2, rfl, hV2, hU2⟩ := hu
    obtain ⟨-, va, vc, e1, -, -⟩ := hV.open
    obtain ⟨-, ua, uc, e2, -, -⟩ := hU.open
    obtain ⟨-, va2, vc2, e3, -, -⟩ := hV2.open
    obtain ⟨-, ua2, uc2, e4, -, -⟩ := hU2.open
    have HT := hid fun W (hB0 : Below w.heap.size w W) => equal_str (hU.keep (below_keeps hB0)) (hU2.keep (below_keeps hB0))
    have HS := hid fun W (hB0 : Below w.heap.size w W) => equalFunc_val (hV.keep (below_keeps hB0) fun _ _ h => MsgAt.below h hB0) (hV2.keep (below_keeps hB0) fun _ _ h => MsgAt.below h hB0) 46 (sameV (sameB a b)) (fun args w => by simp [go_sem])
      fun p _ q _ pv qv wr hp hq hb => tree_same_of (ih b) (VMsg.below hp hb) (VMsg.below hq hb)
    obtain ⟨R, HR⟩ : ∃ R, Hid (R = sameB (a + 1) (b + 1) x y) := ⟨_, rfl⟩
    rw [← HR.out]
    obtain ⟨q1, HQ1⟩ : ∃ q, Hid (q = decide (M.unk x = M.unk y)) := ⟨_, rfl⟩
    obtain ⟨q2, HQ2⟩ : ∃ q, Hid (q = all2 (sameV (sameB a b)) (M.vals x) (M.vals y)) := ⟨_, rfl⟩
    rw [← HQ1.out] at HT
    rw [← HQ2.out] at HS
    have hR : R = (q1 && q2) := by rw [HR.out, HQ1.out, HQ2.out]; rfl
    subst e1
    subst e2
    subst e3
    subst e4
    generalize (M.vals x).length = n1 at *
    generalize (M.unk x).length = n2 at *
    generalize (M.vals y).length = m1 at *
    generalize (M.unk y).length = m2 at *
    clear hV hU hV2 hU2 ih HQ1 HQ2 HR
    clear x y
    cases q1 with
    | false =>
      have hr : R = false := by rw [hR]; simp
      clear hR
      subst hr
      go_enter Tryz.func22, Tryz.ntmps22
      go_wp2_with fail
      refine (HT.out _ (by (repeat (first | with_reducible exact Below.refl _ _ | with_reducible refine Below.setCell ?_ (by first | omega | (simp; omega) | (simp; done)) _ | with_reducible refine Below.alloc ?_ (by first | omega | (simp; omega) | (simp; done)) _ | with_reducible refine below_drewN ?_ _ | with_reducible refine Below.drew ?_)))).mono ?_
      rintro e w1 ⟨rfl, kw, rfl⟩
      go_wp2_with fail
      go_ret
      exact ⟨rfl, by (repeat (first | with_reducible exact Below.refl _ _ | with_reducible refine Below.setCell ?_ (by first | omega | (simp; omega) | (simp; done)) _ | with_reducible refine Below.alloc ?_ (by first | omega | (simp; omega) | (simp; done)) _ | with_reducible refine below_drewN ?_ _ | with_reducible refine Below.drew ?_))⟩
    | true =>
      have hr : R = q2 := by rw [hR]; simp
      clear hR
      subst hr
      go_enter Tryz.func22, Tryz.ntmps22
      go_wp2_with fail
      refine (HT.out _ (by (repeat (first | with_reducible exact Below.refl _ _ | with_reducible refine Below.setCell ?_ (by first | omega | (simp; omega) | (simp; done)) _ | with_reducible refine Below.alloc ?_ (by first | omega | (simp; omega) | (simp; done)) _ | with_reducible refine below_drewN ?_ _ | with_reducible refine Below.drew ?_)))).mono ?_
      rintro e w1 ⟨rfl, kw, rfl⟩
      go_wp2_with fail
      refine (HS.out _ (by (repeat (first | with_reducible exact Below.refl _ _ | with_reducible refine Below.setCell ?_ (by first | omega | (simp; omega) | (simp; done)) _ | with_reducible refine Below.alloc ?_ (by first | omega | (simp; omega) | (simp; done)) _ | with_reducible refine below_drewN ?_ _ | with_reducible refine Below.drew ?_)))).mono ?_
      rintro e w1 ⟨rfl, hb⟩
      go_wp2_with fail
      go_ret
      exact ⟨rfl, below_step (w1 := _) (by (repeat (first | with_reducible exact Below.refl _ _ | with_reducible refine Below.setCell ?_ (by first | omega | (simp; omega) | (simp; done)) _ | with_reducible refine Below.alloc ?_ (by first | omega | (simp; omega) | (simp; done)) _ | with_reducible refine below_drewN ?_ _ | with_reducible refine Below.drew ?_))) hb (by simp; omega)⟩
end Go.Proofs.YtaefpjecalnbcaaGreat
namespace Go.Proofs.YtaefpjecalnbcaaGreat
open Go.RowKit
end Go.Proofs.YtaefpjecalnbcaaGreat
namespace Go.Proofs.YtaefpjecalnbcaaGreat
open Go.RowKit
end Go.Proofs.YtaefpjecalnbcaaGreat
