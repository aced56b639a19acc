/- digest.Of: a message's digest, or why there is none, of a contract of tree.of. At most 2^28 bytes. digest.Make: a message's sheet, or why there is none, of a contract of tree.of. At most 2^28 bytes. Literals: a block of the call's own, read as words, fields, a schema, values. No condition. darninglaw27.alive returns true. No condition. digest.same of two sheets that are the same, and of none against one; slices.EqualFunc of their lines. No condition. digest.Fits of the message's own sheet, and of none. Sheets of a right size (ShFit). -/
import Derived.Test.YtbcpeckmnmhfhaaGreatZ05
import Derived.Test.YtbcpeckmnmhfhaaGreatZ09
import Derived.Test.YtbcpeckmnmhfhaaGreatZ17
import Derived.Test.YtbcpeckmnmhfhaaGreatZ37
import Derived.Test.YtbcpeckmnmhfhaaGreatZ39
import Derived.Test.YtbcpeckmnmhfhaaGreatZ42
import Derived.Test.YtbcpeckmnmhfhaaGreatZ43
import Derived.Deep.CutBlock
import Derived.Deep.CutRange
import Derived.Deep.RegionHeld3
namespace Go.Proofs.YtbcpeckmnmhfhaaGreat
open Go.RowKit
set_option maxRecDepth 100000 in
set_option maxHeartbeats 4000000 in
theorem digest_Of {w : World} {vs vb : Value} {s : List Mes} {l : List UInt8} (hof : sright s = true → ∀ d', TOfOk w vs s d') (hS : SchemaAt w vs s) (hb : Bytes w vb l) (hl : l.length ≤ 268435455) (root d : Int) :
    Calls Tryz.prog 6 #[vs, .int .i64 root, vb, .int .i64 d] w fun e w' => e = .returned (.tuple #[.int .u64 ((if (vcheck s root l d).2 = 0 then dMsg (d.toNat + 1) (tof s d.toNat root.toNat l) else 0 : Nat) : Int), .int .u8 ((vcheck s root l d).2 : Nat)]) ∧ Below w.heap.size w w' := by
  have HT := hid (tree_Of hof hS hb (by omega) root d)
  unfold TreePost at HT
  obtain ⟨-, sa, sc, rfl, -⟩ := hS.open
  obtain ⟨-, a, c, rfl, -⟩ := hb.open
  obtain ⟨z, HZ⟩ : ∃ z, Hid (z = (vcheck s root l d).2) := ⟨_, rfl⟩
  rw [← HZ.out] at HT
  rw [← HZ.out]
  have HW : Hid (mwt (d.toNat + 1) (tof s d.toNat root.toNat l) ≤ 1099511627776) := by
    have := tof_weight s d.toNat root.toNat l
    show _ ≤ _; omega
  generalize s.length = sn at *
  generalize l.length = ln at *
  obtain ⟨Q, HQ⟩ : ∃ Q : Ending → World → Prop, Hid (Q = fun e w' => e = .returned (.tuple #[.int .u64 ((if z = 0 then dMsg (d.toNat + 1) (tof s d.toNat root.toNat l) else 0 : Nat) : Int), .int .u8 (z : Nat)]) ∧ Below w.heap.size w w') := ⟨_, rfl⟩
  rw [← HQ.out]
  clear hS hb hof hl
  go_enter Tryz.func6, Tryz.ntmps6
  go_wp2_with fail
  refine HT.out.mono ?_
  rintro e w1 ⟨v', rfl, hb1, ⟨a1, n1, c1, a2, n2, c2, rfl⟩, hap⟩
  obtain ⟨X, HX⟩ : ∃ X, Hid (X = w1.heap.size) := ⟨_, rfl⟩
  obtain ⟨W1, HW1⟩ : ∃ W1, Hid (W1 = w1.alloc (.cells #[.slice a1 n1 c1, .slice a2 n2 c2] 63)) := ⟨_, rfl⟩
  have hbx : Below w1.heap.size w1 W1 := by rw [HW1.out]; exact (Below.refl _ _).alloc (Nat.le_refl _) _
  have hx1 : Blk W1 X [.slice a1 n1 c1, .slice a2 n2 c2] 63 := by rw [HW1.out, HX.out]; exact Blk.new w1 [.slice a1 n1 c1, .slice a2 n2 c2] _
  have HB1 := hid (hb1.trans (hbx.mono hb1.size))
  have HX1 := hid hx1
  by_cases hz : z = 0
  · subst hz
    have HM := hid (digest_message _ W1 _ _ ((hap rfl).here.below hbx) HW.out)
    obtain ⟨D, HD⟩ : ∃ D, Hid (D = dMsg (d.toNat + 1) (tof s d.toNat root.toNat l)) := ⟨_, rfl⟩
    rw [← HD.out] at HM
    clear hb1 hap hbx hx1
    go_upto_region 2 with fail
    rw [← HW1.out, ← HX.out]
    have k0 := HX1.out.cell 0 _ rfl
    have k1 := HX1.out.cell 1 _ rfl
    have kl := HX1.out.lt
    go_wp2_with fail
    refine HM.out.mono ?_
    rintro e w2 ⟨rfl, hb2⟩
    have HE : Hid (Q (.returned (.tuple #[.int .u64 (D : Int), .int .u8 0])) w2) := by
      rw [HQ.out]
      refine ⟨?_, HB1.out.trans (hb2.mono HB1.out.size)⟩
      rw [HD.out]; simp
    clear hb2 k0 k1 kl
    go_wp2_with fail
    exact HE.out
  · have e1 : ((z : Int) != 0) = true := by simpa using hz
    have e2 : ((z : Int) == 0) = false := by simpa using hz
    have HE : Hid (Q (.returned (.tuple #[.int .u64 0, .int .u8 (z : Nat)])) W1) := by
      rw [HQ.out, if_neg hz]
      exact ⟨rfl, HB1.out⟩
    clear hb1 hap hbx hx1
    go_upto_region 2 with fail
    rw [← HW1.out]
    go_wp2_with fail
    exact HE.out
end Go.Proofs.YtbcpeckmnmhfhaaGreat
namespace Go.Proofs.YtbcpeckmnmhfhaaGreat
open Go.RowKit
def ShPost (w : World) (s : List Mes) (root d : Int) (l : List UInt8) (z : Nat) (e : Ending) (w' : World) : Prop :=
  ∃ p, e = .returned (.tuple #[p, .int .u8 (z : Nat)]) ∧ Below w.heap.size w w' ∧ (z ≠ 0 → p = .pointer none) ∧
    (z = 0 → (∃ b, p = .pointer (some ⟨b, 0, none⟩)) ∧ Apart 0 w.heap.size w' fun w2 => ShAt (d.toNat + 1) w2 p (mkSh s (d.toNat + 1) root (tof s d.toNat root.toNat l)))
set_option maxRecDepth 100000 in
set_option maxHeartbeats 4000000 in
theorem digest_Make {w : World} {vs vb : Value} {s : List Mes} {l : List UInt8} (hof : sright s = true → ∀ d', TOfOk w vs s d') (hS : SchemaAt w vs s) (hb : Bytes w vb l) (hl : l.length ≤ 268435455) (root d : Int) :
    Calls Tryz.prog 7 #[vs, .int .i64 root, vb, .int .i64 d] w (ShPost w s root d l (vcheck s root l d).2) := by
  have HT := hid (tree_Of hof hS hb (by omega) root d)
  unfold TreePost at HT
  have HS := hid hS
  obtain ⟨-, sa, sc, rfl, -⟩ := hS.open
  obtain ⟨-, a, c, rfl, -⟩ := hb.open
  obtain ⟨z, HZ⟩ : ∃ z, Hid (z = (vcheck s root l d).2) := ⟨_, rfl⟩
  rw [← HZ.out] at HT
  rw [← HZ.out]
  have HW : Hid (mwt (d.toNat + 1) (tof s d.toNat root.toNat l) ≤ 1099511627776) := by
    have := tof_weight s d.toNat root.toNat l
    show _ ≤ _; omega
  obtain ⟨sn, HSN⟩ : ∃ n, Hid (n = s.length) := ⟨_, rfl⟩
  obtain ⟨ln, HLN⟩ : ∃ n, Hid (n = l.length) := ⟨_, rfl⟩
  rw [← HSN.out, ← HLN.out] at HT
  rw [← HSN.out] at HS
  rw [← HSN.out, ← HLN.out]
  obtain ⟨Q, HQ⟩ : ∃ Q : Ending → World → Prop, Hid (Q = ShPost w s root d l z) := ⟨_, rfl⟩
  rw [← HQ.out]
  clear hS hb hof hl
  go_enter Tryz.func7, Tryz.ntmps7
  go_wp2_with fail
  refine HT.out.mono ?_
  rintro e w1 ⟨v', rfl, hb1, ⟨a1, n1, c1, a2, n2, c2, rfl⟩, hap⟩
  obtain ⟨X, HX⟩ : ∃ X, Hid (X = w1.heap.size) := ⟨_, rfl⟩
  obtain ⟨W1, HW1⟩ : ∃ W1, Hid (W1 = w1.alloc (.cells #[.slice a1 n1 c1, .slice a2 n2 c2] 63)) := ⟨_, rfl⟩
  have hbx : Below w1.heap.size w1 W1 := by rw [HW1.out]; exact (Below.refl _ _).alloc (Nat.le_refl _) _
  have hx1 : Blk W1 X [.slice a1 n1 c1, .slice a2 n2 c2] 63 := by rw [HW1.out, HX.out]; exact Blk.new w1 [.slice a1 n1 c1, .slice a2 n2 c2] _
  have HB1 := hid (hb1.trans (hbx.mono hb1.size))
  have HX1 := hid hx1
  by_cases hz : z = 0
  · subst hz
    obtain ⟨g1, ⟨g2, g3⟩, -, g4⟩ := vcheck_ok HZ.out.symm
    obtain ⟨r, rfl⟩ : ∃ r : Nat, root = r := ⟨root.toNat, by omega⟩
    rw [Int.toNat_natCast] at g4 hap HW
    have hm := (hap rfl).here.below hbx
    have HM := hid (digest_sheet (HS.out.below HB1.out) (d.toNat + 1) r W1 _ _ (by omega) (Below.refl _ _) hm (tof_right g1 d.toNat r l (by omega) g4) HW.out)
    rw [Int.toNat_natCast] at *
    clear hb1 hap hbx hx1 hm g1 g2 g3 g4
    go_upto_region 2 with fail
    rw [← HW1.out, ← HX.out]
    have k0 := HX1.out.cell 0 _ rfl
    have k1 := HX1.out.cell 1 _ rfl
    have kl := HX1.out.lt
    go_wp2_with fail
    refine HM.out.mono ?_
    rintro e w2 ⟨p, rfl, hb2, hap2⟩
    obtain ⟨pb, rfl⟩ := hap2.here.form
    have HE : Hid (Q (.returned (.tuple #[.pointer (some ⟨pb, 0, none⟩), .int .u8 0])) w2) := by
      rw [HQ.out]
      refine ⟨_, rfl, HB1.out.trans (hb2.mono HB1.out.size), fun h => absurd rfl h, fun _ => ⟨⟨pb, rfl⟩, ?_⟩⟩
      rw [Int.toNat_natCast]
      exact hap2.mono HB1.out.size
    clear hb2 hap2 k0 k1 kl
    go_wp2_with fail
    exact HE.out
  · have e1 : ((z : Int) != 0) = true := by simpa using hz
    have e2 : ((z : Int) == 0) = false := by simpa using hz
    have HE : Hid (Q (.returned (.tuple #[.pointer none, .int .u8 (z : Nat)])) W1) := by
      rw [HQ.out]
      exact ⟨_, rfl, HB1.out, fun _ => rfl, fun h => absurd h hz⟩
    clear hb1 hap hbx hx1
    go_upto_region 2 with fail
    rw [← HW1.out]
    go_wp2_with fail
    exact HE.out
end Go.Proofs.YtbcpeckmnmhfhaaGreat
namespace Go.Proofs.YtbcpeckmnmhfhaaGreat
open Go.RowKit
/-! Literals: a block as a slice. -/
theorem schema_one {w : World} {g : Nat} {name : ByteArray} {fs : List Fld} {fv : Value} {T : TypeId} (h : Blk w g [.string name, fv] T) (hn : name.size ≤ 140737488355328) (hf : FieldsAt w fv fs) : SchemaAt w (.slice (some ⟨g, 0, none⟩) 1 1) [⟨name, fs⟩] := by
  refine ⟨[fv], rfl, seg_blk h 2 1 rfl (by omega), by simpa using hn, fun i hi => ?_⟩
  have : i = 0 := by simp at hi; omega
  subst this
  exact hf
end Go.Proofs.YtbcpeckmnmhfhaaGreat
namespace Go.Proofs.YtbcpeckmnmhfhaaGreat
open Go.RowKit Go.Shelf
def s27 : List Mes := [⟨⟨#[109]⟩, []⟩]
set_option maxRecDepth 100000 in
set_option maxHeartbeats 8000000 in
theorem law27_alive (w : World) : Calls Tryz.prog 4 #[] w fun e w' => e = .returned (.bool true) ∧ Below w.heap.size w w' := by
  have HC : Hid ((vcheck s27 0 [] 0).2 = 0 ∧ dMsg 1 (tof s27 0 0 []) = 14695981039346656037 ∧ fnv fnv0 [] = 14695981039346656037) := ⟨by decide +kernel, by decide +kernel, by decide +kernel⟩
  obtain ⟨B, HB⟩ : ∃ B, Hid (B = w.heap.size) := ⟨_, rfl⟩
  obtain ⟨W1, HW1⟩ : ∃ W1, Hid (W1 = w.alloc (.cells #[.string ⟨#[109]⟩, .slice none 0 0] 55)) := ⟨_, rfl⟩
  have hb1 : Below w.heap.size w W1 := by rw [HW1.out]; exact (Below.refl _ _).alloc (Nat.le_refl _) _
  have hk1 : Blk W1 B [.string ⟨#[109]⟩, .slice none 0 0] 55 := by rw [HW1.out, HB.out]; exact Blk.new w [.string ⟨#[109]⟩, .slice none 0 0] _
  have hS : SchemaAt W1 (.slice (some ⟨B, 0, none⟩) 1 1) s27 := schema_one hk1 (by decide) ⟨⟨rfl, by simp, _, _, rfl, Nat.le_refl _, by omega, fun _ => rfl, fun j u hu => by simp at hu⟩, by simp⟩
  have HM := hid (digest_Make (fun hr d' => tree_of hS hr d') hS (bytes_nil W1) (by simp) 0 0)
  unfold ShPost at HM
  rw [HC.out.1] at HM
  have HB1 := hid hb1
  have HSUM : Hid (∀ W, Calls Tryz.prog 8 #[.slice none 0 0] W fun e w' => e = .returned (.int .u64 14695981039346656037) ∧ Below W.heap.size W w') := fun W => by
    have h := digest_Sum (bytes_nil W)
    rw [HC.out.2.2] at h
    exact h
  obtain ⟨Q, HQ⟩ : ∃ Q : Ending → World → Prop, Hid (Q = fun e w' => e = .returned (.bool true) ∧ Below w.heap.size w w') := ⟨_, rfl⟩
  rw [← HQ.out]
  clear hb1 hk1 hS
  go_enter Tryz.func4, Tryz.ntmps4
  go_upto_region 2 with fail
  rw [← HW1.out, ← HB.out]
  go_wp2_with fail
  refine HM.out.mono ?_
  rintro e w2 ⟨p, rfl, hb2, -, h2⟩
  obtain ⟨⟨b, rfl⟩, hap⟩ := h2 (by first | rfl | trivial)
  have HB2 := hid (HB1.out.trans (hb2.mono HB1.out.size))
  obtain ⟨b', lv, hp, hblk, -⟩ := hap.here
  obtain rfl : b = b' := by injection hp with hp; injection hp with hp; injection hp
  have e2 : ∀ W : World, (binOp .neq 31 (.pointer (some ⟨b, 0, none⟩)) (.pointer none)).run Tryz.prog W = .ok (.bool true) W := fun W => by first | rfl | kernel_rfl | (simp [Sem.run, binOp, go_sem]; done)
  have c0 : w2.cell? ⟨b, 0, none⟩ = some (.int .u64 14695981039346656037) := by
    have h := hblk.cell 0 _ rfl
    have e : Shd.dig (mkSh s27 ((0 : Int).toNat + 1) 0 (tof s27 (0 : Int).toNat (0 : Int).toNat [])) = 14695981039346656037 := HC.out.2.1
    rw [e] at h
    exact h
  have q0 : w2.drew.cell? ⟨b, 0, none⟩ = some (.int .u64 14695981039346656037) := c0
  have ql := hblk.lt
  clear hb2 hap hblk hp h2 HM HC
  go_upto_region 3 with fail
  go_region_held3 (fun w' => w'.cell? ⟨b, 0, none⟩ = some (.int .u64 14695981039346656037)) (first | (with_reducible exact q0) | (with_reducible exact q1) | (with_reducible exact q2)) (first
    | (go_at_call 8; (with_reducible refine (HSUM.out w2.drew).mono ?_); rintro e w3 ⟨rfl, hb3⟩; have q1 := below_keeps hb3 _ _ q0; have HB3 := hid ((Below.refl w2.heap.size w2).drew.trans hb3); clear hb3)
    | (go_at_call 8; (with_reducible refine (HSUM.out w3).mono ?_); rintro e w4 ⟨rfl, hb4⟩; have q2 := below_keeps hb4 _ _ q1; have HB4 := hid (HB3.out.trans (hb4.mono HB3.out.size)); clear hb4))
  all_goals
    go_wp2_with fail
    have HE : Hid (Q (.returned (.bool true)) w4) := by rw [HQ.out]; exact ⟨rfl, HB2.out.trans (HB4.out.mono HB2.out.size)⟩
    exact HE.out
end Go.Proofs.YtbcpeckmnmhfhaaGreat
namespace Go.Proofs.YtbcpeckmnmhfhaaGreat
open Go.RowKit
def ShSame (d : Nat) : Prop := ∀ (w : World) (v u : Value) (x : Sh d), ShAt d w v x → ShAt d w u x →
  Calls Tryz.prog 23 #[v, u] w fun e w' => e = .returned (.bool true) ∧ Below w.heap.size w w'
theorem size_line (w : World) : (sizeOf 95).run Tryz.prog w = .ok 3 w := by kernel_rfl
theorem PtrP.below {d : Nat} {w w' : World} {v : Value} {o : Option (Sh d)} (h : PtrP (ShAt d) w v o) (hb : Below w.heap.size w w') : PtrP (ShAt d) w' v o := by
  unfold PtrP at h ⊢
  cases o with
  | none => exact h
  | some y => exact ShAt.below h hb
theorem PtrP.form {d : Nat} {w : World} {v : Value} {o : Option (Sh d)} (h : PtrP (ShAt d) w v o) : ∃ a, v = .pointer a := by
  unfold PtrP at h
  cases o with
  | none => exact ⟨_, h⟩
  | some y => obtain ⟨b, e⟩ := ShAt.form h; exact ⟨_, e⟩
theorem lines_open {d : Nat} {w : World} {v : Value} {l : List (Lin (Sh d))} (h : RowsAt (LinP (ShAt d)) 3 w v l) :
    l.length ≤ 140737488355328 ∧ ∃ a cap, v = .slice a l.length cap ∧ ∀ k x, l[k]? = some x → ∃ b o p, a = some ⟨b, o, none⟩ ∧ w.cell? ⟨b, o + k * 3, none⟩ = some (.int .i64 x.num) ∧ w.cell? ⟨b, o + k * 3 + 1, none⟩ = some (.int .u64 x.dig) ∧ w.cell? ⟨b, o + k * 3 + 2, none⟩ = some (.pointer p) ∧ PtrP (ShAt d) w (.pointer p) x.sub := by
  obtain ⟨h1, a, cap, h2, -, h4⟩ := RowsAt.open (by decide) h
  refine ⟨h1, a, cap, h2, fun k x hx => ?_⟩
  obtain ⟨b, o, r, ha, -, hc, p, rfl, hp⟩ := h4 k x hx
  obtain ⟨p', rfl⟩ := hp.form
  exact ⟨b, o, p', ha, hc 0 _ rfl, hc 1 _ rfl, hc 2 _ rfl, hp⟩
theorem lines_keep {d : Nat} {w w' : World} {v : Value} {l : List (Lin (Sh d))} (h : RowsAt (LinP (ShAt d)) 3 w v l) (hb : Below w.heap.size w w') : RowsAt (LinP (ShAt d)) 3 w' v l :=
  h.keep (below_keeps hb) fun _ _ hl => by
    obtain ⟨p, e, hp⟩ := hl
    exact ⟨p, e, hp.below hb⟩
set_option maxRecDepth 100000 in
set_option maxHeartbeats 4000000 in
theorem equalFunc_line {d : Nat} {w : World} {v u : Value} {l : List (Lin (Sh d))} (h : RowsAt (LinP (ShAt d)) 3 w v l) (hu : RowsAt (LinP (ShAt d)) 3 w u l) (F : Nat) (hcf : ∀ (args : Array Value) (w : World), (callFunc F args).run Tryz.prog w = .ok (.enter F args) w)
    (hcl : ∀ x ∈ l, ∀ (p q : Option Addr) (wr : World), PtrP (ShAt d) wr (.pointer p) x.sub → PtrP (ShAt d) wr (.pointer q) x.sub → Below w.heap.size w wr → Calls Tryz.prog F #[.agg #[.int .i64 x.num, .int .u64 x.dig, .pointer p], .agg #[.int .i64 x.num, .int .u64 x.dig, .pointer q]] wr fun e w' => e = .returned (.bool true) ∧ Below wr.heap.size wr w') :
    Calls Tryz.prog 46 #[v, u, .func (.func F) #[] #[]] w fun e w' => e = .returned (.bool true) ∧ Below w.heap.size w w' := by
  obtain ⟨hl0, a, c, rfl, hat⟩ := lines_open h
  obtain ⟨-, a2, c2, rfl, hbt⟩ := lines_open hu
  obtain ⟨n, HN⟩ : ∃ n, Hid (n = l.length) := ⟨_, rfl⟩
  have hlen : n ≤ 140737488355328 := by rw [HN.out]; exact hl0
  rw [← HN.out]
  have HAT := hid hat
  have HBT := hid hbt
  have HCL := hid hcl
  clear hat hbt hcl h hu hl0
  go_enter Tryz.func46, Tryz.ntmps46
  go_wp2_with fail
  go_loopw [17] (fun v8 wr => ∃ k : Nat, k ≤ n ∧ v8 = .int .i64 k ∧ Hid (Below w.heap.size w wr)) (fun v8 _ => n - (intOf v8).toNat)
  case atStart => exact ⟨0, by omega, rfl, Below.refl _ _⟩
  case round =>
    obtain ⟨k, hk, rfl, HB⟩ := hrel
    by_cases hlt : k < n
    · have hxi : l[k]? = some (l[k]'(by rw [← HN.out]; exact hlt)) := List.getElem?_eq_getElem _
      generalize l[k]'(by rw [← HN.out]; exact hlt) = x at hxi
      obtain ⟨b, o, p, ha, g0, g1, g2, hM⟩ := HAT.out k x hxi
      obtain ⟨b2, o2, q, ha2, f0, f1, f2, hM2⟩ := HBT.out k x hxi
      have HXX := hid (hM.below HB.out)
      have HYY := hid (hM2.below HB.out)
      clear hM hM2
      replace g0 := below_keeps HB.out _ _ g0
      replace g1 := below_keeps HB.out _ _ g1
      replace g2 := below_keeps HB.out _ _ g2
      replace f0 := below_keeps HB.out _ _ f0
      replace f1 := below_keeps HB.out _ _ f1
      replace f2 := below_keeps HB.out _ _ f2
      have hix := index_run Tryz.underlying56 size_line ha k hlt (cap := c)
      have hix2 := index_run Tryz.underlying56 size_line ha2 k hlt (cap := c2)
      have hbl : b < wr.heap.size := World.block_lt_of_cell? wr _ g0
      have hbl2 : b2 < wr.heap.size := World.block_lt_of_cell? wr _ f0
      have HMX := hid (List.mem_of_getElem? hxi)
      have HC := hid (fun (W : World) (hW : Below wr.heap.size wr W) => HCL.out x HMX.out p q W (HXX.out.below hW) (HYY.out.below hW) (HB.out.trans (hW.mono HB.out.size)))
      clear ha ha2 hxi HXX HYY
      generalize x.num = xn at *
      generalize x.dig = xg at *
      go_wp2_with fail
      refine (HC.out _ (by (repeat (first | with_reducible exact Below.refl _ _ | with_reducible refine Below.setCell ?_ (by first | omega | (simp; omega) | (simp; done)) _ | with_reducible refine Below.alloc ?_ (by first | omega | (simp; omega) | (simp; done)) _ | with_reducible refine below_drewN ?_ _ | with_reducible refine Below.drew ?_)))).mono ?_
      rintro e w5 ⟨rfl, hb5⟩
      have HB5 : Hid (Below w.heap.size w w5) := (HB.out.trans (Below.mono (B := wr.heap.size) (by (repeat (first | with_reducible exact Below.refl _ _ | with_reducible refine Below.setCell ?_ (by first | omega | (simp; omega) | (simp; done)) _ | with_reducible refine Below.alloc ?_ (by first | omega | (simp; omega) | (simp; done)) _ | with_reducible refine below_drewN ?_ _ | with_reducible refine Below.drew ?_))) HB.out.size)).trans (hb5.mono (by simp; have := HB.out.size; omega))
      clear hb5 HC
      go_wp2
      go_roundw
      case rel => exact ⟨k + 1, by omega, by go_num, HB5⟩
      case measure => simp [intOf]; omega
    · go_wp2
      go_ret
      exact ⟨rfl, HB.out⟩
set_option maxRecDepth 100000 in
set_option maxHeartbeats 4000000 in
theorem digest_same_nils (w : World) :
    Calls Tryz.prog 23 #[.pointer none, .pointer none] w fun e w' => e = .returned (.bool true) ∧ Below w.heap.size w w' := by
  go_enter Tryz.func23, Tryz.ntmps23
  go_wp2_with fail
  go_ret
  exact ⟨rfl, Below.refl _ _⟩
set_option maxRecDepth 100000 in
set_option maxHeartbeats 4000000 in
theorem digest_same_nil (b : Nat) (w : World) :
    Calls Tryz.prog 23 #[.pointer none, .pointer (some ⟨b, 0, none⟩)] w fun e w' => e = .returned (.bool false) ∧ Below w.heap.size w w' := by
  have e1 : ∀ W : World, (binOp .eql 31 (.pointer none) (.pointer (some ⟨b, 0, none⟩))).run Tryz.prog W = .ok (.bool false) W := fun W => by first | rfl | kernel_rfl | (simp [Sem.run, binOp, go_sem]; done)
  go_enter Tryz.func23, Tryz.ntmps23
  go_wp2_with fail
  go_ret
  exact ⟨rfl, Below.refl _ _⟩
set_option maxRecDepth 100000 in
set_option maxHeartbeats 4000000 in
theorem digest_same1 {d : Nat} (hs : ShSame d) (xn : Int) (xg : Nat) (o : Option (Sh d)) {p q : Option Addr} {w : World} (hp : PtrP (ShAt d) w (.pointer p) o) (hq : PtrP (ShAt d) w (.pointer q) o) :
    Calls Tryz.prog 47 #[.agg #[.int .i64 xn, .int .u64 xg, .pointer p], .agg #[.int .i64 xn, .int .u64 xg, .pointer q]] w fun e w' => e = .returned (.bool true) ∧ Below w.heap.size w w' := by
  have e1 : (xn == xn) = true := by simp
  have e2 : ((xg : Int) == xg) = true := by simp
  have HSA : Hid (∀ W, Below w.heap.size w W → Calls Tryz.prog 23 #[.pointer p, .pointer q] W fun e w' => e = .returned (.bool true) ∧ Below W.heap.size W w') := by
    intro W hW
    have h1 := hp.below hW
    have h2 := hq.below hW
    unfold PtrP at h1 h2
    cases o with
    | none =>
      injection h1 with h1
      injection h2 with h2
      rw [h1, h2]
      exact digest_same_nils W
    | some y => exact hs W _ _ y h1 h2
  obtain ⟨Q, HQ⟩ : ∃ Q : Ending → World → Prop, Hid (Q = fun e w' => e = .returned (.bool true) ∧ Below w.heap.size w w') := ⟨_, rfl⟩
  rw [← HQ.out]
  clear hp hq
  go_enter Tryz.func47, Tryz.ntmps47
  go_wp2_with fail
  refine (HSA.out _ (by (repeat (first | with_reducible exact Below.refl _ _ | with_reducible refine Below.setCell ?_ (by first | omega | (simp; omega) | (simp; done)) _ | with_reducible refine Below.alloc ?_ (by first | omega | (simp; omega) | (simp; done)) _ | with_reducible refine below_drewN ?_ _ | with_reducible refine Below.drew ?_)))).mono ?_
  rintro e w5 ⟨rfl, hb5⟩
  have HE : Hid (Q (.returned (.bool true)) w5) := by rw [HQ.out]; exact ⟨rfl, (Below.mono (B := w.heap.size) (by (repeat (first | with_reducible exact Below.refl _ _ | with_reducible refine Below.setCell ?_ (by first | omega | (simp; omega) | (simp; done)) _ | with_reducible refine Below.alloc ?_ (by first | omega | (simp; omega) | (simp; done)) _ | with_reducible refine below_drewN ?_ _ | with_reducible refine Below.drew ?_))) (Nat.le_refl _)).trans (hb5.mono (by first | omega | (simp; omega) | simp))⟩
  clear hb5
  go_wp2_with fail
  exact HE.out
set_option maxRecDepth 100000 in
set_option maxHeartbeats 4000000 in
theorem digest_same_step {d : Nat} (hs : ShSame d) : ShSame (d + 1) := by
  intro w v u x hv hu
  obtain ⟨b, lv, rfl, hB, hL⟩ := hv
  obtain ⟨b2, lv2, rfl, hB2, hL2⟩ := hu
  have HS := hid fun W (hB0 : Below w.heap.size w W) => equalFunc_line (lines_keep hL hB0) (lines_keep hL2 hB0) 47 (fun args w => by simp [go_sem]) fun l _ p q wr hp hq _ => digest_same1 hs l.num l.dig l.sub hp hq
  obtain ⟨-, a, c, rfl, -⟩ := lines_open hL
  obtain ⟨-, a2, c2, rfl, -⟩ := lines_open hL2
  obtain ⟨dg, HDG⟩ : ∃ n, Hid (n = Shd.dig x) := ⟨_, rfl⟩
  obtain ⟨uk, HUK⟩ : ∃ n, Hid (n = Shd.unk x) := ⟨_, rfl⟩
  rw [← HDG.out, ← HUK.out] at hB hB2
  obtain ⟨n, HN⟩ : ∃ n, Hid (n = (Shd.lines x).length) := ⟨_, rfl⟩
  rw [← HN.out] at HS hB hB2
  have e1 : ((dg : Int) == dg) = true := by simp
  have e2 : ((uk : Int) == uk) = true := by simp
  obtain ⟨Q, HQ⟩ : ∃ Q : Ending → World → Prop, Hid (Q = fun e w' => e = .returned (.bool true) ∧ Below w.heap.size w w') := ⟨_, rfl⟩
  rw [← HQ.out]
  have k0 := hB.cell 0 _ rfl
  have k1 := hB.cell 1 _ rfl
  have k2 := hB.cell 2 _ rfl
  have j0 := hB2.cell 0 _ rfl
  have j1 := hB2.cell 1 _ rfl
  have j2 := hB2.cell 2 _ rfl
  have kl := hB.lt
  have jl := hB2.lt
  clear hL hL2 hB hB2
  go_enter Tryz.func23, Tryz.ntmps23
  go_wp2_with fail
  go_still_tail 29, (by kernel_rfl)
  change wpList _ _ _ _ _ w.drew
  go_wp2_with fail
  refine (HS.out _ (by (repeat (first | with_reducible exact Below.refl _ _ | with_reducible refine Below.setCell ?_ (by first | omega | (simp; omega) | (simp; done)) _ | with_reducible refine Below.alloc ?_ (by first | omega | (simp; omega) | (simp; done)) _ | with_reducible refine below_drewN ?_ _ | with_reducible refine Below.drew ?_)))).mono ?_
  rintro e w5 ⟨rfl, hb5⟩
  have HE : Hid (Q (.returned (.bool true)) w5) := by rw [HQ.out]; exact ⟨rfl, (Below.mono (B := w.heap.size) (by (repeat (first | with_reducible exact Below.refl _ _ | with_reducible refine Below.setCell ?_ (by first | omega | (simp; omega) | (simp; done)) _ | with_reducible refine Below.alloc ?_ (by first | omega | (simp; omega) | (simp; done)) _ | with_reducible refine below_drewN ?_ _ | with_reducible refine Below.drew ?_))) (Nat.le_refl _)).trans (hb5.mono (by first | omega | (simp; omega) | simp))⟩
  clear hb5
  go_wp2_with fail
  exact HE.out
theorem digest_same : ∀ d, ShSame d
  | 0 => fun _ _ _ _ h _ => h.elim
  | d + 1 => digest_same_step (digest_same d)
end Go.Proofs.YtbcpeckmnmhfhaaGreat
namespace Go.Proofs.YtbcpeckmnmhfhaaGreat
open Go.RowKit
def ShFit : (d : Nat) → Sh d → Prop
  | 0, _ => True
  | d + 1, x => (Shd.lines x).length ≤ 1099511627776 ∧ ∀ l ∈ Shd.lines x, i64ok l.num ∧ l.dig < 2 ^ 64 ∧ ∀ y, l.sub = some y → ShFit d y
theorem mkSh_fit (s : List Mes) {w : World} : ∀ (d : Nat) (root : Int) (v : Value) (x : M d), MsgAt d w v x → mwt d x ≤ 1099511627776 → ShFit d (mkSh s d root x)
  | 0, _, _, _, h, _ => h.elim
  | d + 1, root, v, x, h, hw => by
    obtain ⟨vv, uv, rfl, hV, -⟩ := h
    obtain ⟨-, a, c, -, -, hat⟩ := hV.open
    refine ⟨by show ((M.vals x).map _).length ≤ _; rw [List.length_map]; exact (unk_len x hw).2, fun l hl => ?_⟩
    obtain ⟨u, hu, rfl⟩ := List.mem_map.1 hl
    obtain ⟨i, hi⟩ := List.getElem?_of_mem hu
    obtain ⟨b, o, v1, v2, v3, -, -, -, -, -, wv, tv, sv, -, hnum, -, -, hS⟩ := hat i u hi
    refine ⟨hnum, dVal_lt d u, fun y hy => ?_⟩
    dsimp only at hy
    split at hy
    · cases hh : u.subs with
      | nil => rw [hh] at hy; cases hy
      | cons z r =>
        rw [hh] at hy
        injection hy with hy
        subst hy
        obtain ⟨-, a', c', -, -, hat'⟩ := hS.open
        obtain ⟨b', o', u1, u2, -, -, -, hM⟩ := hat' 0 z (by rw [hh]; rfl)
        refine mkSh_fit s d _ _ z hM ?_
        have h1 := mem_sum_le (vwt (mwt d)) (M.vals x) u hu
        have h2 := mem_sum_le (mwt d) u.subs z (by rw [hh]; simp)
        have e1 : mwt (d + 1) x = 1 + twt (M.unk x) + ((M.vals x).map (vwt (mwt d))).sum := rfl
        have e2 : vwt (mwt d) u = 1 + u.words.length + twt u.texts + (u.subs.map (mwt d)).sum := rfl
        omega
    · cases hy
set_option maxRecDepth 100000 in
set_option maxHeartbeats 4000000 in
theorem digest_Fits {w : World} {vs vb : Value} {s : List Mes} {l : List UInt8} (hof : sright s = true → ∀ d', TOfOk w vs s d') (hS : SchemaAt w vs s) (hb : Bytes w vb l) (hl : l.length ≤ 268435455) (root d : Int) (p : Option Addr) (r : Bool)
    (h0 : (vcheck s root l d).2 ≠ 0 → r = false) (h1 : (vcheck s root l d).2 = 0 → p = none ∧ r = false ∨ ShAt (d.toNat + 1) w (.pointer p) (mkSh s (d.toNat + 1) root (tof s d.toNat root.toNat l)) ∧ r = true) :
    Calls Tryz.prog 11 #[vs, .int .i64 root, vb, .int .i64 d, .pointer p] w fun e w' => e = .returned (.bool r) ∧ Below w.heap.size w w' := by
  have HM := hid (digest_Make hof hS hb hl root d)
  unfold ShPost at HM
  obtain ⟨-, sa, sc, rfl, -⟩ := hS.open
  obtain ⟨-, a, c, rfl, -⟩ := hb.open
  obtain ⟨z, HZ⟩ : ∃ z, Hid (z = (vcheck s root l d).2) := ⟨_, rfl⟩
  obtain ⟨S, HSS⟩ : ∃ S, Hid (S = mkSh s (d.toNat + 1) root (tof s d.toNat root.toNat l)) := ⟨_, rfl⟩
  rw [← HZ.out, ← HSS.out] at HM
  rw [← HZ.out] at h0 h1
  rw [← HSS.out] at h1
  generalize s.length = sn at *
  generalize l.length = ln at *
  obtain ⟨Q, HQ⟩ : ∃ Q : Ending → World → Prop, Hid (Q = fun e w' => e = .returned (.bool r) ∧ Below w.heap.size w w') := ⟨_, rfl⟩
  rw [← HQ.out]
  have H0 := hid h0
  have H1 := hid h1
  clear hS hb hof hl h0 h1
  go_enter Tryz.func11, Tryz.ntmps11
  go_wp2_with fail
  refine HM.out.mono ?_
  rintro e w1 ⟨p', rfl, hb1, hnz, hzz⟩
  by_cases hz : z = 0
  · subst hz
    obtain ⟨⟨b, rfl⟩, hap⟩ := hzz rfl
    have HSA : Hid (Calls Tryz.prog 23 #[.pointer p, .pointer (some ⟨b, 0, none⟩)] w1 fun e w' => e = .returned (.bool r) ∧ Below w1.heap.size w1 w') := by
      rcases H1.out rfl with ⟨rfl, rfl⟩ | ⟨h, rfl⟩
      · exact digest_same_nil b w1
      · exact digest_same _ w1 _ _ S (h.below hb1) hap.here
    have HB1 := hid hb1
    clear hb1 hap hnz hzz H0 H1
    go_wp2_with fail
    refine HSA.out.mono ?_
    rintro e w2 ⟨rfl, hb2⟩
    have HE : Hid (Q (.returned (.bool r)) w2) := by rw [HQ.out]; exact ⟨rfl, HB1.out.trans (hb2.mono HB1.out.size)⟩
    clear hb2
    cases r <;> (go_wp2_with fail; exact HE.out)
  · obtain rfl := hnz hz
    obtain rfl := H0.out hz
    have e1 : ((z : Int) != 0) = true := by simpa using hz
    have e2 : ((z : Int) == 0) = false := by simpa using hz
    have HE : Hid (Q (.returned (.bool false)) w1) := by rw [HQ.out]; exact ⟨rfl, hb1⟩
    clear hb1 hnz hzz H0 H1
    go_wp2_with fail
    exact HE.out
end Go.Proofs.YtbcpeckmnmhfhaaGreat
