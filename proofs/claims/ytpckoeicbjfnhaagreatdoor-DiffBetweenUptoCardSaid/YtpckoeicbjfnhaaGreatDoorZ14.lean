/- darninglaw14.Of, OfValue: a copy of any meaning, that reads the same in each world that agrees on what was there at the start and on what the call has laid. darninglaw14.Of: a copy of any meaning, for each depth (OfOk), and OfValue likewise. slices.IndexFunc and slices.ContainsFunc of words, strings, messages: firstAt, any. The function handed in tells p of each element and changes nothing that was there. -/
import Derived.Test.YtpckoeicbjfnhaaGreatDoorZ12
import Derived.Test.YtpckoeicbjfnhaaGreatDoorZ13
import Derived.Deep.RegionLaw
namespace Go.Proofs.YtpckoeicbjfnhaaGreatDoor
open Go.RowKit Go.Shelf
def SubP (d : Nat) (w : World) (r : List Value) (x : M d) : Prop := MsgAt d w (.agg r.toArray) x
def ValP' (d : Nat) (w : World) (r : List Value) (x : Val (M d)) : Prop := ValAt (MsgAt d) w (.agg r.toArray) x
theorem info_rmsg : (Tryz.prog.info? 39).map (fun i => (i.zero, i.size, i.bytes)) = some (some (.agg #[.slice none 0 0, .slice none 0 0]), 2, 48) := by kernel_rfl
theorem news3 (w : World) (c1 c2 c3 : List Value) (T1 T2 T3 : TypeId) :
    Blk (((w.alloc (.cells c1.toArray T1)).alloc (.cells c2.toArray T2)).alloc (.cells c3.toArray T3)) w.heap.size c1 T1 ∧
    Blk (((w.alloc (.cells c1.toArray T1)).alloc (.cells c2.toArray T2)).alloc (.cells c3.toArray T3)) (w.heap.size + 1) c2 T2 ∧
    Blk (((w.alloc (.cells c1.toArray T1)).alloc (.cells c2.toArray T2)).alloc (.cells c3.toArray T3)) (w.heap.size + 1 + 1) c3 T3 ∧
    (((w.alloc (.cells c1.toArray T1)).alloc (.cells c2.toArray T2)).alloc (.cells c3.toArray T3)).heap.size = w.heap.size + 1 + 1 + 1 ∧
    Below w.heap.size w (((w.alloc (.cells c1.toArray T1)).alloc (.cells c2.toArray T2)).alloc (.cells c3.toArray T3)) := by
  have e : ∀ (w : World) (o : Obj), (w.alloc o).heap.size = w.heap.size + 1 := fun w o => by simp
  refine ⟨((Blk.new w c1 T1).alloc _).alloc _, ?_, ?_, by rw [e, e, e], (((Below.refl _ _).alloc (Nat.le_refl _) _).alloc (by rw [e]; omega) _).alloc (by rw [e, e]; omega) _⟩
  · have := (Blk.new (w.alloc (.cells c1.toArray T1)) c2 T2).alloc (.cells c3.toArray T3)
    rw [e] at this
    exact this
  · have := Blk.new ((w.alloc (.cells c1.toArray T1)).alloc (.cells c2.toArray T2)) c3 T3
    rw [e, e] at this
    exact this
theorem MsgAt.form : ∀ {d : Nat} {w : World} {v : Value} {x : M d}, MsgAt d w v x → ∃ a1 n1 c1 a2 n2 c2, v = .agg #[.slice a1 n1 c1, .slice a2 n2 c2]
  | 0, _, _, _, h => h.elim
  | d + 1, _, _, _, h => by
    obtain ⟨vv, uv, rfl, hV, hU⟩ := h
    obtain ⟨-, va, vc, rfl, -, -⟩ := hV.open
    obtain ⟨-, ua, uc, rfl, -, -⟩ := hU.open
    exact ⟨_, _, _, _, _, _, rfl⟩
end Go.Proofs.YtpckoeicbjfnhaaGreatDoor
namespace Go.Proofs.YtpckoeicbjfnhaaGreatDoor
open Go.RowKit Go.Shelf
theorem ValAt.form {d : Nat} {w : World} {v : Value} {x : Val (M d)} (h : ValAt (MsgAt d) w v x) : ∃ m a1 n1 c1 a2 n2 c2 a3 n3 c3, v = .agg #[.int .i64 m, .slice a1 n1 c1, .slice a2 n2 c2, .slice a3 n3 c3] := by
  obtain ⟨wv, tv, sv, rfl, -, hW, hT, hS⟩ := h
  obtain ⟨-, wa, wc, rfl, -, -⟩ := hW.open
  obtain ⟨-, ta, tc, rfl, -, -⟩ := hT.open
  obtain ⟨-, sa, sc, rfl, -, -⟩ := hS.open
  exact ⟨_, _, _, _, _, _, _, _, _, _, rfl⟩
end Go.Proofs.YtpckoeicbjfnhaaGreatDoor
namespace Go.Proofs.YtpckoeicbjfnhaaGreatDoor
open Go.RowKit
theorem firstAt_get {α : Type} (p : α → Bool) (l : List α) (k : Nat) (x : α) (h : l[k]? = some x) : firstAt p (l.drop k) k = if p x then (k : Int) else firstAt p (l.drop (k + 1)) (k + 1) := by
  obtain ⟨hk, rfl⟩ := List.getElem?_eq_some_iff.1 h
  rw [List.drop_eq_getElem_cons hk, firstAt]
theorem firstAt_any {α : Type} (p : α → Bool) : ∀ (l : List α) (i : Nat), decide (0 ≤ firstAt p l i) = l.any p
  | [], i => by simp [firstAt]
  | x :: r, i => by
    rw [firstAt, List.any_cons]
    cases h : p x with
    | true => rw [if_pos rfl]; simp
    | false => rw [if_neg (by decide), firstAt_any p r (i + 1)]; simp
set_option maxRecDepth 100000 in
set_option maxHeartbeats 4000000 in
theorem indexFunc_u64 {w : World} {v : Value} {l : List Nat} (h : WordsAt w v l) (F : Nat) (cap : Array Value) (p : Nat → Bool) (hcf : ∀ (args : Array Value) (w : World), (callFunc F args).run Tryz.prog w = .ok (.enter F args) w)
    (hcl : ∀ x ∈ l, ∀ (wr : World), x < 2 ^ 64 → Below w.heap.size w wr → Calls Tryz.prog F (#[.int .u64 x] ++ cap) wr fun e w' => e = .returned (.bool (p x)) ∧ Below wr.heap.size wr w') :
    Calls Tryz.prog 188 #[v, .func (.func F) #[] cap] w fun e w' => e = .returned (.int .i64 (firstAt p l 0)) ∧ Below w.heap.size w w' := by
  obtain ⟨hlen, a, c, rfl, -, hat⟩ := h.open
  obtain ⟨n, HN⟩ : ∃ n, Hid (n = l.length) := ⟨_, rfl⟩
  rw [← HN.out] at hlen ⊢
  have HAT := hid hat
  have HCL := hid hcl
  clear hat hcl
  go_enter Tryz.func188, Tryz.ntmps188
  go_wp2
  go_loopw [8] (fun v8 wr => ∃ k : Nat, k ≤ n ∧ v8 = .int .i64 k ∧ Hid (firstAt p (l.drop k) k = firstAt p l 0) ∧ Hid (Below w.heap.size w wr)) (fun v8 _ => n - (intOf v8).toNat)
  case atStart => exact ⟨0, by omega, rfl, hid rfl, Below.refl _ _⟩
  case round =>
    obtain ⟨k, hk, rfl, HK, HB⟩ := hrel
    by_cases hlt : k < n
    · have hat := HAT.out
      have hxi : l[k]? = some (l[k]'(by rw [← HN.out]; exact hlt)) := List.getElem?_eq_getElem _
      generalize l[k]'(by rw [← HN.out]; exact hlt) = x at hxi
      obtain ⟨hx64, b, o, ha, g0⟩ := hat k x hxi
      clear hat
      have HXX := hid hx64
      clear hx64
      have r0 := below_keeps HB.out _ _ g0
      have hU : wordV x = .int .u64 x := rfl
      rw [hU] at r0
      have hbl : b < wr.heap.size := World.block_lt_of_cell? wr _ r0
      have hix := index_run1 Tryz.underlying62 size_u64 ha k hlt (cap := c)
      clear g0 hU
      have hst := hid (firstAt_get p l k x hxi)
      have HMEM := hid (List.mem_of_getElem? hxi)
      clear ha hxi
      go_wp2_with fail
      have hcl := HCL.out
      refine (hcl x HMEM.out wr HXX.out HB.out).mono ?_
      rintro e w5 ⟨rfl, hb5⟩
      clear hcl
      have HB5 : Hid (Below w.heap.size w w5) := below_step HB.out hb5 HB.out.size
      clear hb5
      cases hp : p x with
      | true =>
        have e : firstAt p l 0 = k := by rw [← HK.out, hst.out, if_pos hp]
        have HE := hid e
        clear hp e
        go_wp2
        go_ret
        exact ⟨by rw [HE.out]; rfl, HB5.out⟩
      | false =>
        have e : firstAt p (l.drop (k + 1)) (k + 1) = firstAt p l 0 := by rw [← HK.out, hst.out, if_neg (by rw [hp]; decide)]
        have HE := hid e
        clear hp e
        go_wp2
        go_roundw
        case rel => exact ⟨k + 1, by omega, by go_num, HE.out, HB5.out⟩
        case measure => simp [intOf]; omega
    · go_wp2
      go_ret
      have e : firstAt p l 0 = -1 := by
        rw [← HK.out, List.drop_of_length_le (by rw [← HN.out]; omega)]; rfl
      exact ⟨by rw [e]; rfl, HB.out⟩
set_option maxRecDepth 100000 in
set_option maxHeartbeats 4000000 in
theorem containsFunc_u64 {w : World} {v : Value} {l : List Nat} (h : WordsAt w v l) (F : Nat) (cap : Array Value) (p : Nat → Bool) (hcf : ∀ (args : Array Value) (w : World), (callFunc F args).run Tryz.prog w = .ok (.enter F args) w)
    (hcl : ∀ x ∈ l, ∀ (wr : World), x < 2 ^ 64 → Below w.heap.size w wr → Calls Tryz.prog F (#[.int .u64 x] ++ cap) wr fun e w' => e = .returned (.bool (p x)) ∧ Below wr.heap.size wr w') :
    Calls Tryz.prog 136 #[v, .func (.func F) #[] cap] w fun e w' => e = .returned (.bool (l.any p)) ∧ Below w.heap.size w w' := by
  obtain ⟨x, HX⟩ : ∃ x, Hid (x = firstAt p l 0) := ⟨_, rfl⟩
  have HA : Hid (decide (0 ≤ x) = l.any p) := by rw [HX.out]; exact firstAt_any p l 0
  have HI := hid (indexFunc_u64 h F cap p hcf hcl)
  rw [← HX.out] at HI
  obtain ⟨hlen, a, c, rfl, -, -⟩ := h.open
  clear h hcl
  go_enter Tryz.func136, Tryz.ntmps136
  go_wp2_with fail
  refine HI.out.mono ?_
  rintro e w1 ⟨rfl, hb1⟩
  go_wp2_with fail
  go_ret
  exact ⟨ret1 (by rw [← HA.out]; first | rfl | (congr 1)), hb1⟩
set_option maxRecDepth 100000 in
set_option maxHeartbeats 4000000 in
theorem indexFunc_str {w : World} {v : Value} {l : List (List UInt8)} (h : StrsAt w v l) (F : Nat) (cap : Array Value) (p : (List UInt8) → Bool) (hcf : ∀ (args : Array Value) (w : World), (callFunc F args).run Tryz.prog w = .ok (.enter F args) w)
    (hcl : ∀ x ∈ l, ∀ (wr : World), x.length ≤ 140737488355328 → Below w.heap.size w wr → Calls Tryz.prog F (#[strV x] ++ cap) wr fun e w' => e = .returned (.bool (p x)) ∧ Below wr.heap.size wr w') :
    Calls Tryz.prog 143 #[v, .func (.func F) #[] cap] w fun e w' => e = .returned (.int .i64 (firstAt p l 0)) ∧ Below w.heap.size w w' := by
  obtain ⟨hlen, a, c, rfl, -, hat⟩ := h.open
  obtain ⟨n, HN⟩ : ∃ n, Hid (n = l.length) := ⟨_, rfl⟩
  rw [← HN.out] at hlen ⊢
  have HAT := hid hat
  have HCL := hid hcl
  clear hat hcl
  go_enter Tryz.func143, Tryz.ntmps143
  go_wp2
  go_loopw [8] (fun v8 wr => ∃ k : Nat, k ≤ n ∧ v8 = .int .i64 k ∧ Hid (firstAt p (l.drop k) k = firstAt p l 0) ∧ Hid (Below w.heap.size w wr)) (fun v8 _ => n - (intOf v8).toNat)
  case atStart => exact ⟨0, by omega, rfl, hid rfl, Below.refl _ _⟩
  case round =>
    obtain ⟨k, hk, rfl, HK, HB⟩ := hrel
    by_cases hlt : k < n
    · have hat := HAT.out
      have hxi : l[k]? = some (l[k]'(by rw [← HN.out]; exact hlt)) := List.getElem?_eq_getElem _
      generalize l[k]'(by rw [← HN.out]; exact hlt) = x at hxi
      obtain ⟨hx64, b, o, ha, g0⟩ := hat k x hxi
      clear hat
      have HXX := hid hx64
      clear hx64
      have r0 := below_keeps HB.out _ _ g0
      have hU : strV x = .string ⟨x.toArray⟩ := rfl
      rw [hU] at r0
      have hbl : b < wr.heap.size := World.block_lt_of_cell? wr _ r0
      have hix := index_run1 Tryz.underlying25 size_str ha k hlt (cap := c)
      clear g0 hU
      have hst := hid (firstAt_get p l k x hxi)
      have HMEM := hid (List.mem_of_getElem? hxi)
      clear ha hxi
      go_wp2_with fail
      have hcl := HCL.out
      refine (hcl x HMEM.out wr HXX.out HB.out).mono ?_
      rintro e w5 ⟨rfl, hb5⟩
      clear hcl
      have HB5 : Hid (Below w.heap.size w w5) := below_step HB.out hb5 HB.out.size
      clear hb5
      cases hp : p x with
      | true =>
        have e : firstAt p l 0 = k := by rw [← HK.out, hst.out, if_pos hp]
        have HE := hid e
        clear hp e
        go_wp2
        go_ret
        exact ⟨by rw [HE.out]; rfl, HB5.out⟩
      | false =>
        have e : firstAt p (l.drop (k + 1)) (k + 1) = firstAt p l 0 := by rw [← HK.out, hst.out, if_neg (by rw [hp]; decide)]
        have HE := hid e
        clear hp e
        go_wp2
        go_roundw
        case rel => exact ⟨k + 1, by omega, by go_num, HE.out, HB5.out⟩
        case measure => simp [intOf]; omega
    · go_wp2
      go_ret
      have e : firstAt p l 0 = -1 := by
        rw [← HK.out, List.drop_of_length_le (by rw [← HN.out]; omega)]; rfl
      exact ⟨by rw [e]; rfl, HB.out⟩
set_option maxRecDepth 100000 in
set_option maxHeartbeats 4000000 in
theorem containsFunc_str {w : World} {v : Value} {l : List (List UInt8)} (h : StrsAt w v l) (F : Nat) (cap : Array Value) (p : (List UInt8) → Bool) (hcf : ∀ (args : Array Value) (w : World), (callFunc F args).run Tryz.prog w = .ok (.enter F args) w)
    (hcl : ∀ x ∈ l, ∀ (wr : World), x.length ≤ 140737488355328 → Below w.heap.size w wr → Calls Tryz.prog F (#[strV x] ++ cap) wr fun e w' => e = .returned (.bool (p x)) ∧ Below wr.heap.size wr w') :
    Calls Tryz.prog 94 #[v, .func (.func F) #[] cap] w fun e w' => e = .returned (.bool (l.any p)) ∧ Below w.heap.size w w' := by
  obtain ⟨x, HX⟩ : ∃ x, Hid (x = firstAt p l 0) := ⟨_, rfl⟩
  have HA : Hid (decide (0 ≤ x) = l.any p) := by rw [HX.out]; exact firstAt_any p l 0
  have HI := hid (indexFunc_str h F cap p hcf hcl)
  rw [← HX.out] at HI
  obtain ⟨hlen, a, c, rfl, -, -⟩ := h.open
  clear h hcl
  go_enter Tryz.func94, Tryz.ntmps94
  go_wp2_with fail
  refine HI.out.mono ?_
  rintro e w1 ⟨rfl, hb1⟩
  go_wp2_with fail
  go_ret
  exact ⟨ret1 (by rw [← HA.out]; first | rfl | (congr 1)), hb1⟩
set_option maxRecDepth 100000 in
set_option maxHeartbeats 4000000 in
theorem indexFunc_msg {d : Nat} {w : World} {v : Value} {l : List (M d)} (h : SubsAt (MsgAt d) w v l) (F : Nat) (cap : Array Value) (p : (M d) → Bool) (hcf : ∀ (args : Array Value) (w : World), (callFunc F args).run Tryz.prog w = .ok (.enter F args) w)
    (hcl : ∀ x ∈ l, ∀ (mv : Value) (wr : World), MsgAt d w mv x → Below w.heap.size w wr → Calls Tryz.prog F (#[mv] ++ cap) wr fun e w' => e = .returned (.bool (p x)) ∧ Below wr.heap.size wr w') :
    Calls Tryz.prog 192 #[v, .func (.func F) #[] cap] w fun e w' => e = .returned (.int .i64 (firstAt p l 0)) ∧ Below w.heap.size w w' := by
  obtain ⟨hlen, a, c, rfl, -, hat⟩ := h.open
  obtain ⟨n, HN⟩ : ∃ n, Hid (n = l.length) := ⟨_, rfl⟩
  rw [← HN.out] at hlen ⊢
  have HAT := hid hat
  have HCL := hid hcl
  clear hat hcl
  go_enter Tryz.func192, Tryz.ntmps192
  go_wp2
  go_loopw [8] (fun v8 wr => ∃ k : Nat, k ≤ n ∧ v8 = .int .i64 k ∧ Hid (firstAt p (l.drop k) k = firstAt p l 0) ∧ Hid (Below w.heap.size w wr)) (fun v8 _ => n - (intOf v8).toNat)
  case atStart => exact ⟨0, by omega, rfl, hid rfl, Below.refl _ _⟩
  case round =>
    obtain ⟨k, hk, rfl, HK, HB⟩ := hrel
    by_cases hlt : k < n
    · have hat := HAT.out
      have hxi : l[k]? = some (l[k]'(by rw [← HN.out]; exact hlt)) := List.getElem?_eq_getElem _
      generalize l[k]'(by rw [← HN.out]; exact hlt) = x at hxi
      obtain ⟨b, o, v1, v2, ha, g0, g1, hM⟩ := hat k x hxi
      clear hat
      have HXX := hid hM
      clear hM
      have r0 := below_keeps HB.out _ _ g0
      have r1 := below_keeps HB.out _ _ g1
      have hbl : b < wr.heap.size := World.block_lt_of_cell? wr _ r0
      have hix := index_run Tryz.underlying79 size_msg ha k hlt (cap := c)
      clear g0 g1
      have hst := hid (firstAt_get p l k x hxi)
      have HMEM := hid (List.mem_of_getElem? hxi)
      clear ha hxi
      go_wp2_with fail
      have hcl := HCL.out
      refine (hcl x HMEM.out _ _ HXX.out HB.out).mono ?_
      rintro e w5 ⟨rfl, hb5⟩
      clear hcl
      have HB5 : Hid (Below w.heap.size w w5) := below_step HB.out hb5 HB.out.size
      clear hb5
      cases hp : p x with
      | true =>
        have e : firstAt p l 0 = k := by rw [← HK.out, hst.out, if_pos hp]
        have HE := hid e
        clear hp e
        go_wp2
        go_ret
        exact ⟨by rw [HE.out]; rfl, HB5.out⟩
      | false =>
        have e : firstAt p (l.drop (k + 1)) (k + 1) = firstAt p l 0 := by rw [← HK.out, hst.out, if_neg (by rw [hp]; decide)]
        have HE := hid e
        clear hp e
        go_wp2
        go_roundw
        case rel => exact ⟨k + 1, by omega, by go_num, HE.out, HB5.out⟩
        case measure => simp [intOf]; omega
    · go_wp2
      go_ret
      have e : firstAt p l 0 = -1 := by
        rw [← HK.out, List.drop_of_length_le (by rw [← HN.out]; omega)]; rfl
      exact ⟨by rw [e]; rfl, HB.out⟩
set_option maxRecDepth 100000 in
set_option maxHeartbeats 4000000 in
theorem containsFunc_msg {d : Nat} {w : World} {v : Value} {l : List (M d)} (h : SubsAt (MsgAt d) w v l) (F : Nat) (cap : Array Value) (p : (M d) → Bool) (hcf : ∀ (args : Array Value) (w : World), (callFunc F args).run Tryz.prog w = .ok (.enter F args) w)
    (hcl : ∀ x ∈ l, ∀ (mv : Value) (wr : World), MsgAt d w mv x → Below w.heap.size w wr → Calls Tryz.prog F (#[mv] ++ cap) wr fun e w' => e = .returned (.bool (p x)) ∧ Below wr.heap.size wr w') :
    Calls Tryz.prog 139 #[v, .func (.func F) #[] cap] w fun e w' => e = .returned (.bool (l.any p)) ∧ Below w.heap.size w w' := by
  obtain ⟨x, HX⟩ : ∃ x, Hid (x = firstAt p l 0) := ⟨_, rfl⟩
  have HA : Hid (decide (0 ≤ x) = l.any p) := by rw [HX.out]; exact firstAt_any p l 0
  have HI := hid (indexFunc_msg h F cap p hcf hcl)
  rw [← HX.out] at HI
  obtain ⟨hlen, a, c, rfl, -, -⟩ := h.open
  clear h hcl
  go_enter Tryz.func139, Tryz.ntmps139
  go_wp2_with fail
  refine HI.out.mono ?_
  rintro e w1 ⟨rfl, hb1⟩
  go_wp2_with fail
  go_ret
  exact ⟨ret1 (by rw [← HA.out]; first | rfl | (congr 1)), hb1⟩
end Go.Proofs.YtpckoeicbjfnhaaGreatDoor
