/- view.All: all views of bytes (vall). At most 2^40 bytes. What frames.Split returns: the frames' bytes (copies); or none, the place, the code. -/
import Derived.Test.YtphkmpnahnakaaaZ08
import Derived.Test.YtphkmpnahnakaaaZ14
import Derived.Test.YtphkmpnahnakaaaZ15
import Derived.RangeFuncNested
import Derived.RangeFuncBound
import Derived.RangeFuncCalls
import Derived.RangeFuncLeaves
import Derived.Shelf.RegionOpen
namespace Go.Proofs.Ytphkmpnahnakaaa
open Go.RowKit
def viewP (_ : World) (r : List Value) (x : VW) : Prop := r = x.cells
def AllPost (w : World) (T : TypeId) (k : Nat → Value) (x : List VW × Nat × Nat) (e : Ending) (w' : World) : Prop :=
  ∃ v' base, e = .returned (.tuple #[v', .int .i64 (x.2.1 : Nat), k x.2.2]) ∧ w.heap.size ≤ base ∧ RowsOwn viewP T 7 0 base w' v' x.1 ∧ Below w.heap.size w w'
theorem info_view : (Try.prog.info? 80).map (fun i => (i.zero, i.size, i.bytes)) = some (some (.agg #[.int .i64 0, .int .i64 0, .int .i64 0, .int .i64 0, .int .i64 0, .int .i64 0, .bool false]), 7, 56) := by kernel_rfl
set_option maxRecDepth 100000 in
set_option maxHeartbeats 8000000 in
theorem view_All {w : World} {v vf : Value} {l : List UInt8} {fs : List Fld} (h : Bytes w v l) (hl : l.length ≤ 1099511627776) (hf : FieldsAt w vf fs) (nm : ByteArray) :
    Calls Try.prog 30 #[.agg #[.string nm, vf], v] w (AllPost w 80 (fun c => .int .u8 (c : Int)) (vall fs l)) := by
  have HLL := hid hl
  obtain ⟨hlen, a, cap, rfl, -, -, -, -⟩ := h.open
  obtain ⟨-, fa, fc, rfl, -⟩ := hf.open
  obtain ⟨n, HN⟩ : ∃ n, Hid (n = l.length) := ⟨_, rfl⟩
  obtain ⟨fn, HFN⟩ : ∃ n, Hid (n = fs.length) := ⟨_, rfl⟩
  rw [← HN.out] at hlen HLL hl h ⊢
  rw [← HFN.out] at hf ⊢
  obtain ⟨w1, HW1⟩ : ∃ w1, Hid (w1 = w.alloc (.cells #[.string nm, .slice fa fn fc] 47)) := ⟨_, rfl⟩
  have hb1 : Below w.heap.size w w1 := by rw [HW1.out]; (repeat (first | with_reducible exact Below.refl _ _ | with_reducible refine Below.setCell ?_ (by first | omega | (simp; omega) | (simp; done)) _ | with_reducible refine Below.alloc ?_ (by first | omega | (simp; omega) | (simp; done)) _ | with_reducible refine below_drewN ?_ _ | with_reducible refine Below.drew ?_))
  have hbx : Blk w1 w.heap.size [.string nm, .slice fa fn fc] 47 := by rw [HW1.out]; exact Blk.new w [.string nm, .slice fa fn fc] _
  have HB1 := hid hb1
  have HBX := hid hbx
  have HV := hid (h.below hb1)
  have HF := hid (hf.below hb1)
  obtain ⟨Q, HQ⟩ : ∃ Q : Ending → World → Prop, Hid (Q = AllPost w 80 (fun c => .int .u8 (c : Int)) (vall fs l)) := ⟨_, rfl⟩
  rw [← HQ.out]
  clear h hf hb1 hbx
  go_enter Try.func30, Try.ntmps30
  go_wp2_with fail
  rw [← HW1.out]
  go_loopw [7, 8, 9, 10] (fun v7 v8 _ _ wr => ∃ (pre : List VW) (oa : Option Addr) (m oc at' : Nat), v7 = .slice oa m oc ∧ v8 = .int .i64 at' ∧ at' ≤ n ∧ m ≤ at' ∧ Hid (m = pre.length ∧ (∃ fuel, n - at' ≤ fuel ∧ vall fs l = glueV pre (vallGo fs l fuel at')) ∧ Below w1.heap.size w1 wr ∧ RowsOwn viewP 80 7 0 w1.heap.size wr (.slice oa m oc) pre)) (fun _ v8 _ _ _ => n - (intOf v8).toNat)
  case atStart => exact ⟨[], none, 0, 0, 0, rfl, rfl, by omega, by omega, rfl, ⟨l.length, by have := HN.out; omega, by rw [glueV_nil]; rfl⟩, Below.refl _ _, RowsOwn.nil _ _ _ _ _ _⟩
  case round =>
    obtain ⟨pre, oa, m, oc, at', rfl, rfl, hat, hmat, HI⟩ := hrel
    have hbx := HBX.out.below HI.out.2.2.1
    have c0 := hbx.cell 0 _ rfl
    have c1 := hbx.cell 1 _ rfl
    have hsz := hbx.lt
    have HBW : Hid (Below w.heap.size w wr) := HB1.out.trans (HI.out.2.2.1.mono HB1.out.size)
    clear hbx
    by_cases hlt : at' < n
    · obtain ⟨r, k, run, c, HR⟩ : ∃ r k run c, Hid (vlook fs l at' = (r, k, run, c)) := ⟨_, _, _, _, rfl⟩
      have hlk := view_Look (HV.out.below HI.out.2.2.1) (HF.out.below HI.out.2.2.1) nm at' (by omega)
      rw [HR.out] at hlk
      have HLK := hid hlk
      obtain ⟨rn, rw', rs, ra, rt⟩ := r
      simp only [viewV] at HLK
      clear hlk
      by_cases hc : c = 0
      · subst hc
        have hok : at' < rt ∧ rt ≤ n := by
          have := vlook_ok (fs := fs) (l := l) (i := at') (by rw [HR.out])
          rw [HR.out, ← HN.out] at this
          exact ⟨this.2.1, this.2.2.1⟩
        have HST : Hid (∃ fuel, n - rt ≤ fuel ∧ vall fs l = glueV (pre ++ [⟨⟨rn, rw', rs, ra, rt⟩, k, run⟩]) (vallGo fs l fuel rt)) := by
          obtain ⟨fuel, h1, h2⟩ := HI.out.2.1
          obtain ⟨f', rfl⟩ : ∃ f', fuel = f' + 1 := ⟨fuel - 1, by omega⟩
          exact ⟨f', by omega, by rw [h2, glueV_step (by rw [← HN.out]; exact hlt) HR.out]⟩
        go_wp2_with fail
        refine HLK.out.mono ?_
        rintro e w2 ⟨rfl, hb1⟩
        have hb2 := hb1.alloc hb1.size (.cells #[.int .i64 rn, .int .i64 rw', .int .i64 rs, .int .i64 ra, .int .i64 rt, .int .i64 k, .bool run] 80)
        have hk2 := Blk.new w2 [.int .i64 rn, .int .i64 rw', .int .i64 rs, .int .i64 ra, .int .i64 rt, .int .i64 k, .bool run] 80
        have hX : wr.heap.size ≤ w2.heap.size := hb1.size
        go_wp2_with fail
        generalize hW2 : w2.alloc (.cells #[.int .i64 rn, .int .i64 rw', .int .i64 rs, .int .i64 ra, .int .i64 rt, .int .i64 k, .bool run] 80) = W2 at *
        clear hW2
        generalize w2.heap.size = X at *
        clear hb1 c0 c1 hsz
        obtain ⟨a5, c5, w5, hr5, hO5, hB4, hB5, hk5⟩ := RowsOwn.step2 HI.out.2.2.2 hb2.drew (by decide) (by omega) HI.out.2.2.1.size HI.out.1.symm 74 _ 56 Try.underlying74 info_view rfl #[.int .i64 rn, .int .i64 rw', .int .i64 rs, .int .i64 ra, .int .i64 rt, .int .i64 k, .bool run] rfl (by intro u hu; simp at hu; rcases hu with rfl | rfl | rfl | rfl | rfl | rfl | rfl <;> rfl) ⟨⟨rn, rw', rs, ra, rt⟩, k, run⟩ (fun _ _ => rfl) (by have := HLL.out; omega) (by decide)
        have hkd : Blk W2.drew X [.int .i64 rn, .int .i64 rw', .int .i64 rs, .int .i64 ra, .int .i64 rt, .int .i64 k, .bool run] 80 := hk2
        have hke : Blk (W2.alloc (.cells #[.int .i64 rn, .int .i64 rw', .int .i64 rs, .int .i64 ra, .int .i64 rt, .int .i64 k, .bool run] 80)).drew X [.int .i64 rn, .int .i64 rw', .int .i64 rs, .int .i64 ra, .int .i64 rt, .int .i64 k, .bool run] 80 := hkd.alloc (.cells #[.int .i64 rn, .int .i64 rw', .int .i64 rs, .int .i64 ra, .int .i64 rt, .int .i64 k, .bool run] 80)
        have hkf : Blk w5 X [.int .i64 rn, .int .i64 rw', .int .i64 rs, .int .i64 ra, .int .i64 rt, .int .i64 k, .bool run] 80 := (hk5 X hX hk2.lt).trans hkd
        have k0 := And.intro (hkd.cell 0 _ rfl) (And.intro (hkd.cell 1 _ rfl) (And.intro (hkd.cell 2 _ rfl) (And.intro (hkd.cell 3 _ rfl) (And.intro (hkd.cell 4 _ rfl) (And.intro (hkd.cell 5 _ rfl) (hkd.cell 6 _ rfl))))))
        have k1 := And.intro (hke.cell 0 _ rfl) (And.intro (hke.cell 1 _ rfl) (And.intro (hke.cell 2 _ rfl) (And.intro (hke.cell 3 _ rfl) (And.intro (hke.cell 4 _ rfl) (And.intro (hke.cell 5 _ rfl) (hke.cell 6 _ rfl))))))
        have k3 := And.intro (hkf.cell 0 _ rfl) (And.intro (hkf.cell 1 _ rfl) (And.intro (hkf.cell 2 _ rfl) (And.intro (hkf.cell 3 _ rfl) (And.intro (hkf.cell 4 _ rfl) (And.intro (hkf.cell 5 _ rfl) (hkf.cell 6 _ rfl))))))
        have hXl := hk2.lt
        have HR5 : Hid ((Builtin.append_ #[74, 74] 74 #[.slice oa m oc, .slice (some ⟨W2.heap.size, 0, none⟩) 1 1]).run Try.prog (W2.alloc (.cells #[.int .i64 rn, .int .i64 rw', .int .i64 rs, .int .i64 ra, .int .i64 rt, .int .i64 k, .bool run] 80)).drew = .ok (.slice a5 (m + 1) c5) w5) := hr5
        have HO5 := hid hO5
        have HB5 : Hid (Below w1.heap.size wr w5) := hB5
        clear hkd hke hkf hr5 hO5 hB4 hB5 hk5 hb2 hk2
        go_region_held3 (fun w' => w'.cell? ⟨X, 0, none⟩ = some (.int .i64 rn) ∧ w'.cell? ⟨X, 1, none⟩ = some (.int .i64 rw') ∧ w'.cell? ⟨X, 2, none⟩ = some (.int .i64 rs) ∧ w'.cell? ⟨X, 3, none⟩ = some (.int .i64 ra) ∧ w'.cell? ⟨X, 4, none⟩ = some (.int .i64 rt) ∧ w'.cell? ⟨X, 5, none⟩ = some (.int .i64 k) ∧ w'.cell? ⟨X, 6, none⟩ = some (.bool run)) (first | (with_reducible exact k0) | (with_reducible exact k1) | (with_reducible exact k3) | go_keep) (first | (refine step_append_eq rfl (.tmp 26) (.tmp 28) _ rfl _ _ rfl rfl HR5.out ?_))
        go_wp2_with fail
        go_roundw
        case rel => exact ⟨pre ++ [⟨⟨rn, rw', rs, ra, rt⟩, k, run⟩], _, _, _, rt, rfl, rfl, hok.2, by have := hok.1; omega, by rw [List.length_append, ← HI.out.1]; rfl, HST.out, HI.out.2.2.1.trans HB5.out, HO5.out⟩
        case measure => simp [intOf]; have := hok.1; omega
      · have HE : Hid (vall fs l = ([], at', c)) := by
          obtain ⟨fuel, h1, h2⟩ := HI.out.2.1
          obtain ⟨f', rfl⟩ : ∃ f', fuel = f' + 1 := ⟨fuel - 1, by omega⟩
          rw [Hid, h2, glueV_bad (by rw [← HN.out]; exact hlt) (by rw [HR.out]) hc]
        have hc1 : ((c : Int) != 0) = true := by simp; exact hc
        have hc2 : ((c : Int) == 0) = false := by simp; exact hc
        clear hc
        go_wp2_with fail
        refine HLK.out.mono ?_
        rintro e w2 ⟨rfl, hb1⟩
        have HB2 : Hid (Below w.heap.size w w2) := below_step HBW.out hb1 HBW.out.size
        clear hb1
        go_wp2_with fail
        rw [HQ.out, HE.out]
        go_ret3
        exact ⟨_, w.heap.size, rfl, Nat.le_refl _, RowsOwn.nil _ _ _ _ _ _, HB2.out.alloc HB2.out.size _⟩
    · obtain rfl : at' = n := by omega
      have HE : Hid (vall fs l = (pre, 0, 0)) := by
        obtain ⟨fuel, h1, h2⟩ := HI.out.2.1
        rw [Hid, h2, glueV_end (by rw [← HN.out]; omega)]
      go_wp2_with fail
      rw [HQ.out, HE.out]
      go_ret3
      exact ⟨_, w1.heap.size, rfl, HB1.out.size, HI.out.2.2.2, HBW.out⟩
end Go.Proofs.Ytphkmpnahnakaaa
namespace Go.Proofs.Ytphkmpnahnakaaa
open Go.RowKit Go.Shelf
attribute [local go_sem] Oper.semAt_some
theorem Bytes.sub {w : World} {a : Option Addr} {n cap : Nat} {l : List UInt8} (h : Bytes w (.slice a n cap) l) (hn : n = l.length) (i j : Nat) (hij : i ≤ j) (hj : j ≤ n) : Bytes w (sliced a i j cap 1) (part l i j) := by
  subst hn
  have hs := Seg.sub h i j hij hj
  unfold Bytes part
  rw [List.length_take, List.length_drop, Nat.min_eq_left (by omega), List.map_take, List.map_drop]
  simpa using hs
end Go.Proofs.Ytphkmpnahnakaaa
