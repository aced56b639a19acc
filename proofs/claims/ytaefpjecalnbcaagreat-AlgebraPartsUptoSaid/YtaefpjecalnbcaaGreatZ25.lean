/- A region that draws its order and whose operation L waits for whatever is taken first: a condition on the world that holds behind each operation but L lets loads be taken first, though L writes what they read. No condition. Masks, in plain words: of a union, of a meet, of what lies under a number. Plain: the part of a meaning that a mask keeps, or leaves (partM). No condition. Slices of ways (slices of ints): what they hold; darningref13.Same, Has, Whole, less; mask.Has. No condition. Slices of ways: slices.IndexFunc, ContainsFunc; darningref13.Has, Whole; mask.Has, Mask.Whole's test. No condition. Mask.Whole's test, darningref13.Whole; slices.Clone of ways; darninglaw13.Many. No condition. slices.SortFunc of ways by slices.Compare: the ways in their order. The list is not empty. mask.Of: the mask of ways (mOf). At most 2^40 ways, each of at most 2^44 numbers. -/
import Derived.Test.YtaefpjecalnbcaaGreatShelf
import Derived.Test.YtaefpjecalnbcaaGreatZ01
import Derived.Test.YtaefpjecalnbcaaGreatZ06
import Derived.Test.YtaefpjecalnbcaaGreatZ07
import Derived.Test.YtaefpjecalnbcaaGreatZ08
import Derived.Test.YtaefpjecalnbcaaGreatZ09
import Derived.Test.YtaefpjecalnbcaaGreatZ10
import Derived.Test.YtaefpjecalnbcaaGreatZ13
import Derived.Deep.RegionHeld3
import Derived.StillTail
namespace Go.Proofs.YtaefpjecalnbcaaGreat
open Go.RowKit
section
variable {P : Program} {ops : Array Oper} {Q : Exit → Act → World → Prop} {S : World → Prop} {L : Nat}
/-- whatever comes up: S holds behind it, unless it is L -/
def wpAnyE (P : Program) (ops : Array Oper) (Q : Exit → Act → World → Prop) (S : World → Prop) (L : Nat) : Nat → Array Bool → Act → World → Prop
  | 0, listed, a, w => Region.ready .any ops listed = [] ∧ Q .normal a w
  | fuel + 1, listed, a, w =>
    (Region.ready .any ops listed = [] → Q .normal a w) ∧
    ∀ i ∈ Region.ready .any ops listed, wpOp P ops Q i (fun a' w' => (i ≠ L → S w') ∧ wpAnyE P ops Q S L fuel (listed.setIfInBounds i true) a' w') a w
theorem wpAny_of_E : ∀ (fuel : Nat) (listed : Array Bool) (a : Act) (w : World), wpAnyE P ops Q S L fuel listed a w → wpAny P .any ops Q fuel listed a w
  | 0, _, _, _, h => h
  | fuel + 1, _, _, _, h => ⟨h.1, fun i hi => wpOp_mono (fun a' w' h' => wpAny_of_E fuel _ a' w' h'.2) (h.2 i hi)⟩
theorem wpAnyE_first {i : Nat} {oi : Oper} {v : Value} (hi : ops[i]? = some oi) (hsel : ∀ (j : Nat) (o : Oper) cs b, ops[j]? = some o → o.op ≠ .select cs b)
    (hQ : ∀ c a w, Q (.panic c) (a.put oi.dst v) w → Q (.panic c) a w) (hL : Region.waitsFor .any ops L i = true) :
    ∀ (fuel : Nat) (listed : Array Bool) (a : Act) (w : World),
      (∀ j oj, ops[j]? = some oj → j ≠ i → listed.getD j true = false → (∀ e ∈ oj.after, Region.binds .any e = true → e.on ≠ i) → oi.apart ops oj = true) →
      i ∈ Region.ready .any ops listed → YieldsIf P ops S oi v a → S w →
      wpAnyE P ops Q S L fuel (listed.setIfInBounds i true) (a.put oi.dst v) w → wpAnyE P ops Q S L (fuel + 1) listed a w := by
  obtain ⟨oL, hoL, eL, heL, hbL, honL⟩ := Region.waitsFor_spec hL
  have hnL : ∀ (listed : Array Bool) (j : Nat), i ∈ Region.ready .any ops listed → j ∈ Region.ready .any ops listed → j ≠ L := by
    rintro listed j hr hj rfl
    obtain ⟨-, o, ho, hall⟩ := mem_ready.1 hj
    rw [hoL] at ho
    cases ho
    have h1 := hall eL heL hbL
    rw [honL] at h1
    have h0 := (mem_ready.1 hr).1
    rw [getD_both h0] at h1
    cases h1
  intro fuel
  induction fuel with
  | zero =>
    intro listed a w _ hr hy hS H
    refine ⟨fun h => (by rw [h] at hr; cases hr), fun j hj => ?_⟩
    by_cases hji : j = i
    · subst hji; exact hy.wpOp hi hS ⟨fun _ => hS, H⟩
    · have := ready_mono hj hji
      rw [H.1] at this
      cases this
  | succ fuel ih =>
    intro listed a w hfree hr hy hS H
    refine ⟨fun h => (by rw [h] at hr; cases hr), fun j hj => ?_⟩
    by_cases hji : j = i
    · subst hji; exact hy.wpOp hi hS ⟨fun _ => hS, H⟩
    · have hjL := hnL listed j hr hj
      have h1 := H.2 j (ready_mono hj hji)
      obtain ⟨hjun, oj, hoj, hall⟩ := mem_ready.1 hj
      have hnot : ∀ e ∈ oj.after, Region.binds .any e = true → e.on ≠ i := fun e he hb heq => by
        have h1 := hall e he hb
        have h0 := (mem_ready.1 hr).1
        rw [heq, getD_both h0] at h1
        cases h1
      have h2 := wpOp_putIf hoj (hfree j oj hoj hji hjun hnot) (fun cs b => hsel i oi cs b hi) (fun cs b => hsel j oj cs b hoj) hQ hy h1
      have hfree' : ∀ k ok, ops[k]? = some ok → k ≠ i → (listed.setIfInBounds j true).getD k true = false →
          (∀ e ∈ ok.after, Region.binds .any e = true → e.on ≠ i) → oi.apart ops ok = true := fun k ok hk hki hun hno => by
        refine hfree k ok hk hki ?_ hno
        by_cases hjk : j = k
        · subst hjk; exact hjun
        · rw [getD_set_ne true hjk] at hun; exact hun
      refine wpOp_mono (fun a' w' h3 => ⟨h3.2.1, ih (listed.setIfInBounds j true) a' w' hfree' (ready_mono hr (Ne.symm hji)) h3.1 (h3.2.1 hjL) ?_⟩) h2
      rw [Array.setIfInBounds_comm _ _ hji]
      exact h3.2.2
/-- the beginning -/
theorem wp_region_E {id : Nat} {a : Act} {w : World} (L : Nat) (S : World → Prop) (hm : P.follows .mixedOrders = true)
    (h : wpAnyE P ops Q S L ops.size (Array.replicate ops.size false) a w.drew) : (Code.region id ops true).wp P Q a w :=
  wp_region_any hm (wpAny_of_E _ _ _ _ h)
/-- number i is taken first -/
theorem wpAnyE_take {i : Nat} {oi : Oper} {v : Value} {fuel : Nat} {listed : Array Bool} {a : Act} {w : World} (hi : ops[i]? = some oi)
    (hs : Region.noSelect ops = true) (hf : Region.free .any ops listed i = true) (hr : (Region.ready .any ops listed).contains i = true) (hL : Region.waitsFor .any ops L i = true)
    (hQ : ∀ c a w, Q (.panic c) (a.put oi.dst v) w → Q (.panic c) a w) (hS : S w) (hy : YieldsIf P ops S oi v a)
    (h : wpAnyE P ops Q S L fuel (listed.setIfInBounds i true) (a.put oi.dst v) w) : wpAnyE P ops Q S L (fuel + 1) listed a w :=
  wpAnyE_first hi (Region.noSelect_spec hs) hQ hL fuel listed a w (Region.free_spec hi hf) (by simpa using hr) hy hS h
/-- the only one that may come up -/
theorem wpAnyE_one {i : Nat} {oi : Oper} {fuel : Nat} {listed : Array Bool} {a : Act} {w : World} (hr : Region.ready .any ops listed = [i]) (hi : ops[i]? = some oi) (hg : oi.guard = none)
    (h : ∀ K' : Act → World → Prop, Shut (∀ a w, (i ≠ L → S w) → wpAnyE P ops Q S L fuel (listed.setIfInBounds i true) a w → K' a w) → Oper.wp P oi a w K' Q) : wpAnyE P ops Q S L (fuel + 1) listed a w := by
  refine ⟨fun h0 => (by rw [hr] at h0; cases h0), fun j hj => ?_⟩
  rw [hr] at hj
  have hji : j = i := by simpa using hj
  subst hji
  refine wpOp_step hi fun K' hK => ?_
  rw [if_pos (by simp [Region.wanted, hg])]
  exact h K' fun a w hS hW => hK a w ⟨hS, hW⟩
theorem wpAnyE_done {listed : Array Bool} {a : Act} {w : World} (hr : Region.ready .any ops listed = []) (h : Q .normal a w) : ∀ fuel, wpAnyE P ops Q S L fuel listed a w
  | 0 => ⟨hr, h⟩
  | _ + 1 => ⟨fun _ => h, by rw [hr]; simp⟩
end
/-- the blocks of w0 below O, and those from z on, are as they were -/
def Kept (O z : Nat) (w0 w' : World) : Prop := ∀ b, b < w0.heap.size → (b < O ∨ z ≤ b) → w'.heap[b]? = w0.heap[b]?
theorem Kept.refl (O z : Nat) (w : World) : Kept O z w w := fun _ _ _ => rfl
theorem Kept.cell {O z : Nat} {w0 w' : World} (h : Kept O z w0 w') {b j : Nat} {u : Value} (hb : b < O ∨ z ≤ b) (hc : w0.cell? ⟨b, j, none⟩ = some u) : w'.cell? ⟨b, j, none⟩ = some u :=
  (World.cell?_of_block (h b (World.block_lt_of_cell? w0 _ hc) hb)).trans hc
theorem Kept.below {O z : Nat} {w0 w1 w' : World} (h : Kept O z w0 w1) (hs : w0.heap.size ≤ w1.heap.size) (hb : Below w1.heap.size w1 w') : Kept O z w0 w' := fun b hlt hc => (hb.block b (Nat.lt_of_lt_of_le hlt hs)).trans (h b hlt hc)
theorem kept_below {O z : Nat} {w0 w' : World} (hb : Below w0.heap.size w0 w') : Kept O z w0 w' := fun b hlt _ => hb.block b hlt
end Go.Proofs.YtaefpjecalnbcaaGreat
namespace Go.Proofs.YtaefpjecalnbcaaGreat
/-- the mask of ways -/
def mOf (l : List (List Int)) : List (List Int) := rOf l l.length
theorem mOf_mask (l : List (List Int)) : IsMask l (mOf l) := rOf_mask l
theorem insW_len (w : List Int) : ∀ o, (insW w o).length = o.length + 1
  | [] => rfl
  | u :: r => by
    rw [insW]
    split
    · simp [insW_len w r]
    · simp
theorem rOf_len (l : List (List Int)) : ∀ n, (rOf l n).length ≤ n
  | 0 => by simp [rOf]
  | n + 1 => by
    have := rOf_len l n
    rw [rOf]
    split
    · rw [insW_len]; omega
    · omega
theorem mOf_len (l : List (List Int)) : (mOf l).length ≤ l.length := rOf_len l _
/-- the rests of the ways under a number -/
def wholeW (n : Int) (l : List Int) : Bool := decide (l = [n])
def underW (l : List (List Int)) (n : Int) : List (List Int) := (l.filter (fun w => decide (1 < w.length) && decide (w.head? = some n))).map List.tail
theorem under_mem (l : List (List Int)) (n : Int) (w : List Int) : w ∈ underW l n ↔ w ≠ [] ∧ n :: w ∈ l := by
  unfold underW
  simp only [List.mem_map, List.mem_filter, Bool.and_eq_true, decide_eq_true_eq]
  constructor
  · rintro ⟨v, ⟨h1, h2, h3⟩, rfl⟩
    cases v with
    | nil => simp at h2
    | cons x v =>
      simp at h2 h3
      subst h3
      exact ⟨fun e => by simp at e; subst e; simp at h2, h1⟩
  · rintro ⟨h1, h2⟩
    exact ⟨n :: w, ⟨h2, by have := List.length_pos_iff.2 h1; simp; omega, rfl⟩, rfl⟩
theorem under_sorted {l : List (List Int)} (h : l.Pairwise (fun a b => ltW a b = true)) (n : Int) : (underW l n).Pairwise (fun a b => ltW a b = true) := by
  unfold underW
  rw [List.pairwise_map]
  refine List.Pairwise.imp_of_mem ?_ (h.filter _)
  intro a b ha hb hab
  have ha' := (List.mem_filter.1 ha).2
  have hb' := (List.mem_filter.1 hb).2
  simp only [Bool.and_eq_true, decide_eq_true_eq] at ha' hb'
  cases a with
  | nil => simp at ha'
  | cons x a =>
    cases b with
    | nil => simp at hb'
    | cons y b =>
      simp at ha' hb'
      obtain ⟨-, rfl⟩ := ha'
      obtain ⟨-, rfl⟩ := hb'
      simpa [ltW] using hab
/-- what lies under a number of a mask is a mask -/
theorem under_self (l : List (List Int)) (n : Int) : mOf (underW (mOf l) n) = underW (mOf l) n := by
  refine (mOf_mask _).one ⟨under_sorted (mOf_mask l).1 n, fun w => ⟨fun hw => ?_, fun hw => hw.1⟩⟩
  obtain ⟨h1, h2⟩ := (under_mem _ _ _).1 hw
  refine ⟨hw, h1, fun u hu hn hp => ?_⟩
  obtain ⟨g1, g2⟩ := (under_mem _ _ _).1 hu
  have e := (((mOf_mask l).2 _).1 h2).2.2 (n :: u) (((mOf_mask l).2 _).1 g2).1 (by simp) (by rw [List.cons_prefix_cons]; exact ⟨rfl, hp⟩)
  exact (List.cons.inj e).2
end Go.Proofs.YtaefpjecalnbcaaGreat
namespace Go.Proofs.YtaefpjecalnbcaaGreat
open Go.RowKit
def pval {α : Type} (sub : Int → List (List Int) → α → α) (fs : List Fld) (keep : Bool) (ws : List (List Int)) (v : Val α) : List (Val α) :=
  if ws.any (wholeW v.num) = false ∧ underW ws v.num ≠ [] ∧ (fs.getD (fieldAt fs v.num).toNat .zero).kind = 17 ∧ (fs.getD (fieldAt fs v.num).toNat .zero).rep = false then
    [⟨v.num, [], [], (v.subs.take 1).map (sub (fs.getD (fieldAt fs v.num).toNat .zero).of (underW ws v.num))⟩]
  else if ws.any (wholeW v.num) = keep then [v] else []
/-- what a mask keeps, or leaves, of a meaning -/
def partM (s : List Mes) (keep : Bool) : (d : Nat) → Nat → List (List Int) → M d → M d
  | 0, _, _, x => x
  | d + 1, m, ws, x => (⟨(M.vals x).flatMap (pval (fun o u y => partM s keep d o.toNat u y) (s.getD m .zero).fields keep ws), if keep = true then [] else M.unk x⟩ : Msgd (M d))
end Go.Proofs.YtaefpjecalnbcaaGreat
namespace Go.Proofs.YtaefpjecalnbcaaGreat
open Go.RowKit
def WayP (w : World) (r : List Value) (l : List Int) : Prop := ∃ v, r = [v] ∧ IntsAt w v l
/-- A [][]int. -/
def WaysAt (w : World) (v : Value) (ls : List (List Int)) : Prop := RowsAt WayP 1 w v ls
theorem WayP.keep {w w' : World} {r : List Value} {l : List Int} (h : WayP w r l) (hk : ∀ p u, w.cell? p = some u → w'.cell? p = some u) : WayP w' r l := let ⟨v, h1, h2⟩ := h; ⟨v, h1, h2.keep hk⟩
theorem WaysAt.keep {w w' : World} {v : Value} {ls : List (List Int)} (h : WaysAt w v ls) (hk : ∀ p u, w.cell? p = some u → w'.cell? p = some u) : WaysAt w' v ls := RowsAt.keep h hk fun _ _ hx => hx.keep hk
theorem WaysAt.below {w w' : World} {v : Value} {ls : List (List Int)} (h : WaysAt w v ls) (hb : Below w.heap.size w w') : WaysAt w' v ls := h.keep (below_keeps hb)
theorem WaysAt.open {w : World} {v : Value} {ls : List (List Int)} (h : WaysAt w v ls) :
    ls.length ≤ 140737488355328 ∧ ∃ a cap, v = .slice a ls.length cap ∧ (a = none → cap = 0) ∧ ∀ k l, ls[k]? = some l → ∃ b o a2 c2, a = some ⟨b, o, none⟩ ∧ w.cell? ⟨b, o + k, none⟩ = some (.slice a2 l.length c2) ∧ IntsAt w (.slice a2 l.length c2) l := by
  obtain ⟨h1, a, cap, h2, h3, h4⟩ := RowsAt.open (by decide) h
  refine ⟨h1, a, cap, h2, h3, fun k l hl => ?_⟩
  obtain ⟨b, o, r, ha, -, hc, v', rfl, hI⟩ := h4 k l hl
  have hI' := hI
  obtain ⟨-, a2, c2, rfl, -, -⟩ := hI'.open
  have := hc 0 _ rfl
  rw [Nat.mul_one, Nat.add_zero] at this
  exact ⟨b, o, a2, c2, ha, this, hI⟩
theorem size_ints (w : World) : (sizeOf 68).run Tryz.prog w = .ok 1 w := by kernel_rfl
theorem under_ways : Tryz.prog.underlying 28 = some (.slice 68) := Tryz.underlying28
theorem info_ints : (Tryz.prog.info? 68).map (fun i => (i.zero, i.size, i.bytes)) = some (some (.slice none 0 0), 1, 24) := by kernel_rfl
theorem way_get {ls : List (List Int)} {n i : Nat} (hn : n = ls.length) (h : i < n) : ∃ x, ls[i]? = some x := ⟨_, List.getElem?_eq_getElem (by omega)⟩
end Go.Proofs.YtaefpjecalnbcaaGreat
namespace Go.Proofs.YtaefpjecalnbcaaGreat
open Go.RowKit
theorem any_at {α : Type} {p : α → Bool} {l : List α} {i : Nat} {x : α} (h : l[i]? = some x) : (l.drop i).any p = (p x || (l.drop (i + 1)).any p) := by
  rw [drop_at h]; rfl
theorem any_end {α : Type} {p : α → Bool} {l : List α} {i : Nat} (h : l.length ≤ i) : (l.drop i).any p = false := by
  rw [List.drop_eq_nil_of_le h]; rfl
def IndexPost (z : Bool) (w : World) (e : Ending) (w' : World) : Prop := ∃ r : Int, e = .returned (.int .i64 r) ∧ decide (0 ≤ r) = z ∧ Drew w w'
set_option maxRecDepth 100000 in
set_option maxHeartbeats 4000000 in
theorem indexFunc_ways {w : World} {v : Value} {ls : List (List Int)} (h : WaysAt w v ls) (F : Nat) (cap : Array Value) (p : List Int → Bool) (hcf : ∀ (args : Array Value) (w : World), (callFunc F args).run Tryz.prog w = .ok (.enter F args) w)
    (hcl : ∀ (u : Value) (l : List Int) (wr : World), IntsAt wr u l → Drew w wr → Calls Tryz.prog F (#[u] ++ cap) wr fun e w' => e = .returned (.bool (p l)) ∧ Drew wr w') :
    Calls Tryz.prog 149 #[v, .func (.func F) #[] cap] w (IndexPost (ls.any p) w) := by
  obtain ⟨hlen, a, c, rfl, -, hat⟩ := h.open
  obtain ⟨n, HN⟩ : ∃ n, Hid (n = ls.length) := ⟨_, rfl⟩
  rw [← HN.out] at hlen ⊢
  obtain ⟨z, HZ⟩ : ∃ z, Hid (z = ls.any p) := ⟨_, rfl⟩
  rw [← HZ.out]
  have HAT := hid hat
  have HCL := hid hcl
  clear hat hcl
  go_enter Tryz.func149, Tryz.ntmps149
  go_wp2
  go_loopw [8] (fun v8 wr => ∃ k : Nat, k ≤ n ∧ v8 = .int .i64 k ∧ Hid (z = (ls.drop k).any p) ∧ Hid (Drew w wr)) (fun v8 _ => n - (intOf v8).toNat)
  case atStart => exact ⟨0, by omega, rfl, by rw [Hid, HZ.out]; rfl, Drew.refl _⟩
  case round =>
    obtain ⟨k, hk, rfl, HK, HB⟩ := hrel
    by_cases hlt : k < n
    · obtain ⟨x, hxi⟩ := way_get HN.out hlt
      obtain ⟨b, o, xa, xc, ha, g0, hX⟩ := HAT.out k x hxi
      replace g0 := HB.out.keeps _ _ g0
      have HX := hid (hX.keep HB.out.keeps)
      have HA := hid (any_at (p := p) hxi)
      have hix := index_run1 Tryz.underlying28 size_ints ha k hlt (cap := c)
      obtain ⟨xn, HXN⟩ : ∃ xn, Hid (xn = x.length) := ⟨_, rfl⟩
      rw [← HXN.out] at g0 HX
      clear hxi hX ha
      go_wp2_with fail
      have hcl := HCL.out
      refine (hcl _ x _ HX.out HB.out).mono ?_
      rintro e w5 ⟨rfl, hb5⟩
      clear hcl
      have HB5 : Hid (Drew w w5) := HB.out.trans hb5
      clear hb5
      cases hp : p x with
      | true =>
        have HE : Hid (z = true) := by rw [Hid, HK.out, HA.out, hp]; rfl
        clear hp
        go_wp2
        go_ret
        exact ⟨_, rfl, by rw [HE.out]; simp, HB5.out⟩
      | false =>
        have HE : Hid (z = (ls.drop (k + 1)).any p) := by rw [Hid, HK.out, HA.out, hp]; rfl
        clear hp
        go_wp2
        go_roundw
        case rel => exact ⟨k + 1, by omega, by go_num, HE.out, HB5.out⟩
        case measure => simp [intOf]; omega
    · have HE : Hid (z = false) := by rw [Hid, HK.out, any_end (by rw [← HN.out]; omega)]
      go_wp2
      go_ret
      exact ⟨_, rfl, by rw [HE.out]; rfl, HB.out⟩
set_option maxRecDepth 100000 in
set_option maxHeartbeats 4000000 in
theorem containsFunc_ways {w : World} {v : Value} {ls : List (List Int)} (h : WaysAt w v ls) (F : Nat) (cap : Array Value) (p : List Int → Bool) (hcf : ∀ (args : Array Value) (w : World), (callFunc F args).run Tryz.prog w = .ok (.enter F args) w)
    (hcl : ∀ (u : Value) (l : List Int) (wr : World), IntsAt wr u l → Drew w wr → Calls Tryz.prog F (#[u] ++ cap) wr fun e w' => e = .returned (.bool (p l)) ∧ Drew wr w') :
    Calls Tryz.prog 118 #[v, .func (.func F) #[] cap] w fun e w' => e = .returned (.bool (ls.any p)) ∧ Drew w w' := by
  have HI := hid (indexFunc_ways h F cap p hcf hcl)
  obtain ⟨-, a, c, rfl, -, -⟩ := h.open
  obtain ⟨z, HZ⟩ : ∃ z, Hid (z = ls.any p) := ⟨_, rfl⟩
  rw [← HZ.out] at HI ⊢
  clear h hcl
  go_enter Tryz.func118, Tryz.ntmps118
  go_wp2_with fail
  refine HI.out.mono ?_
  rintro e w1 ⟨r, rfl, hr, hb⟩
  have HR := hid hr
  have HB := hid hb
  clear hr hb
  by_cases h0 : 0 ≤ r
  · have HT : Hid (z = true) := by rw [Hid, ← HR.out]; exact decide_eq_true h0
    go_wp2_with fail
    go_ret
    exact ⟨by rw [HT.out]; first | done | rfl, HB.out⟩
  · have HT : Hid (z = false) := by rw [Hid, ← HR.out]; exact decide_eq_false h0
    have e1 : decide (0 ≤ r) = false := decide_eq_false h0
    go_wp2_with fail
    go_ret
    exact ⟨by rw [HT.out]; first | done | rfl, HB.out⟩
/-- a mask's value -/
def maskV (v : Value) : Value := .agg #[v]
end Go.Proofs.YtaefpjecalnbcaaGreat
namespace Go.Proofs.YtaefpjecalnbcaaGreat
open Go.RowKit
set_option maxRecDepth 100000 in
set_option maxHeartbeats 4000000 in
theorem mask_Whole_1 {w : World} {q : Nat} {u : Value} {x : Int} {l : List Int} (hq : w.cell? ⟨q, 0, none⟩ = some (.int .i64 x)) (hu : IntsAt w u l) :
    Calls Tryz.prog 119 #[u, .pointer (some ⟨q, 0, none⟩)] w fun e w' => e = .returned (.bool (wholeW x l)) ∧ Drew w w' := by
  obtain ⟨-, a2, c2, rfl, -, hat⟩ := hu.open
  match l, hat with
  | [], _ =>
    go_enter Tryz.func119, Tryz.ntmps119
    go_wp2_with fail
    go_quiet (fail)
    go_wp2_with fail
    go_ret
    exact ⟨rfl, Drew.at_drewN _ _⟩
  | [y], hat =>
    obtain ⟨-, b, o, ha, g0⟩ := hat 0 y rfl
    have hix := index_0 Tryz.underlying68 size_int ha (by decide : 0 < 1) (cap := c2)
    rw [Nat.add_zero] at g0
    clear hat ha
    by_cases hxy : y = x
    · subst hxy
      go_enter Tryz.func119, Tryz.ntmps119
      go_wp2_with fail
      go_quiet (fail)
      go_wp2_with fail
      go_ret
      exact ⟨by simp [wholeW], Drew.at_drewN _ _⟩
    · have e1 : (y == x) = false := by simpa using hxy
      have HE : Hid (wholeW x [y] = false) := by simp [Hid, wholeW, hxy]
      clear hxy
      go_enter Tryz.func119, Tryz.ntmps119
      go_wp2_with fail
      go_quiet (fail)
      go_wp2_with fail
      go_ret
      exact ⟨by rw [HE.out]; first | done | rfl, Drew.at_drewN _ _⟩
  | y :: y2 :: r, _ =>
    obtain ⟨n, HN⟩ : ∃ n, Hid (n = (y :: y2 :: r).length) := ⟨_, rfl⟩
    have HE : Hid (wholeW x (y :: y2 :: r) = false) := by simp [Hid, wholeW]
    rw [HE.out, ← HN.out]
    have e1 : ((n : Int) == 1) = false := by have := HN.out; simp at this; simp; omega
    have e2 : decide ((n : Int) = 1) = false := by have := HN.out; simp at this; simp; omega
    have e3 : (n == 1) = false := by have := HN.out; simp at this; simp; omega
    clear hat hu
    go_enter Tryz.func119, Tryz.ntmps119
    go_wp2_with fail
    go_quiet (fail)
    go_wp2_with fail
    go_ret
    exact ⟨rfl, Drew.at_drewN _ _⟩
set_option maxRecDepth 100000 in
set_option maxHeartbeats 4000000 in
theorem ref13_Whole {w : World} {v : Value} {ls : List (List Int)} (h : WaysAt w v ls) (x : Int) :
    Calls Tryz.prog 35 #[v, .int .i64 x] w fun e w' => e = .returned (.bool (ls.any (wholeW x))) ∧ Drew w w' := by
  obtain ⟨hlen, a, c, rfl, -, hat⟩ := h.open
  obtain ⟨n, HN⟩ : ∃ n, Hid (n = ls.length) := ⟨_, rfl⟩
  rw [← HN.out] at hlen ⊢
  obtain ⟨z, HZ⟩ : ∃ z, Hid (z = ls.any (wholeW x)) := ⟨_, rfl⟩
  rw [← HZ.out]
  have HAT := hid hat
  clear hat h
  go_enter Tryz.func35, Tryz.ntmps35
  go_wp2
  go_loop [5] (fun v8 => ∃ k : Nat, k ≤ n ∧ v8 = .int .i64 k ∧ Hid (z = (ls.drop k).any (wholeW x))) (fun v8 => n - (intOf v8).toNat)
  case atStart => exact ⟨0, by omega, rfl, by rw [Hid, HZ.out]; rfl⟩
  case round =>
    obtain ⟨k, hk, rfl, HK⟩ := hrel
    by_cases hlt : k < n
    · obtain ⟨y, hxi⟩ := way_get HN.out hlt
      obtain ⟨b, o, xa, xc, ha, g0, hX⟩ := HAT.out k y hxi
      have HA := hid (any_at (p := wholeW x) hxi)
      have hix := index_run1 Tryz.underlying28 size_ints ha k hlt (cap := c)
      obtain ⟨-, xa', xc', hxe, -, hxat⟩ := hX.open
      cases hxe
      obtain ⟨m, HM⟩ : ∃ m, Hid (m = y.length) := ⟨_, rfl⟩
      rw [← HM.out] at g0
      clear hxi hX ha
      by_cases hm : m = 1
      · subst hm
        obtain ⟨y0, rfl⟩ : ∃ y0, y = [y0] := List.length_eq_one_iff.1 HM.out.symm
        obtain ⟨-, b2, o2, ha2, g2⟩ := hxat 0 y0 rfl
        have hix2 := index_0 Tryz.underlying68 size_int ha2 (by decide : 0 < 1) (cap := xc)
        rw [Nat.add_zero] at g2
        clear hxat ha2
        by_cases hxy : y0 = x
        · have HE : Hid (z = true) := by rw [Hid, HK.out, HA.out]; simp [wholeW, hxy]
          subst hxy
          go_wp2_with fail
          go_ret
          exact ⟨by rw [HE.out]; first | done | simp, Drew.refl _⟩
        · have HE : Hid (z = (ls.drop (k + 1)).any (wholeW x)) := by rw [Hid, HK.out, HA.out]; simp [wholeW, hxy]
          have e1 : (y0 == x) = false := by simpa using hxy
          clear hxy
          go_wp2_with fail
          go_round
          case rel => exact ⟨k + 1, by omega, by go_num, HE.out⟩
          case measure => simp [intOf]; omega
      · have HE : Hid (z = (ls.drop (k + 1)).any (wholeW x)) := by
          have : wholeW x y = false := decide_eq_false fun e => hm (by rw [HM.out, e]; rfl)
          rw [Hid, HK.out, HA.out, this]; rfl
        have e1 : ((m : Int) == 1) = false := by simp; omega
        have e2 : decide ((m : Int) = 1) = false := by simp; omega
        have e3 : (m == 1) = false := by simp; omega
        clear hxat hm
        go_wp2_with fail
        go_round
        case rel => exact ⟨k + 1, by omega, by go_num, HE.out⟩
        case measure => simp [intOf]; omega
    · have HE : Hid (z = false) := by rw [Hid, HK.out, any_end (by rw [← HN.out]; omega)]
      go_wp2
      go_ret
      exact ⟨by rw [HE.out]; first | done | rfl, Drew.refl _⟩
/-- A [][]int of the call's own: its cells. -/
def WaysRow (w : World) (base : Nat) (v : Value) (vs : List Value) : Prop := w.ownsRow base 68 1 v vs.length vs
set_option maxRecDepth 100000 in
set_option maxHeartbeats 4000000 in
theorem clone_ways {w : World} {v : Value} {vs : List Value} (h : Seg w v 1 vs.length vs) (h1 : ∀ u ∈ vs, u.oneCell' = true) (hl : vs.length ≤ 1099511627776) :
    Calls Tryz.prog 47 #[v] w fun e w' => ∃ v', e = .returned v' ∧ WaysRow w' w.heap.size v' vs ∧ Below w.heap.size w w' := by
  have H := hid h
  obtain ⟨-, -, a, cap, rfl, -, -, hnil, -⟩ := h
  obtain ⟨n, HN⟩ : ∃ n, Hid (n = vs.length) := ⟨_, rfl⟩
  rw [← HN.out] at hl H ⊢
  cases a with
  | none =>
    have := hnil rfl
    have HE : Hid (vs = []) := List.eq_nil_of_length_eq_zero (by have := HN.out; obtain ⟨-, -, a', c', e, h1, -⟩ := H.out; cases e; omega)
    clear hl
    go_enter Tryz.func47, Tryz.ntmps47
    have eqn := fun W a n c n' c' => Lib.run_eql_slice_nil (P := Tryz.prog) W 28 _ a n c n' c' under_ways
    go_wp2
    go_ret
    refine ⟨_, rfl, ?_, Below.refl _ _⟩
    rw [HE.out]
    exact World.ownsRow_nil _ _ _ _
  | some ad =>
    have hO : WaysRow (w.alloc (.cells #[] 68)) w.heap.size (.slice (some ⟨w.heap.size, 0, none⟩) 0 0) [] := by
      exact World.ownsRow_made (base := w.heap.size) (e := 68) (size := 1) w #[] 0 (Nat.le_refl _) (by unfold maxLen; omega) rfl
    obtain ⟨v', w', hr, hO', hg, -⟩ := seg_append (P := Tryz.prog) _ w.heap.size 28 28 68 (.slice none 0 0) 1 24 under_ways info_ints rfl (by decide) _ _ _ n _ _ hO (H.out.below ((Below.refl _ _).alloc (Nat.le_refl _) _))
      h1 (by simp; omega) (by simp; omega) (by simp)
    have hg' : Below w.heap.size w w' := ((Below.refl w.heap.size w).alloc (Nat.le_refl _) (.cells #[] 68)).grown hg (by simp) (by intro q e; simp [Value.ownBlock] at e; omega)
    have HO : Hid (WaysRow w' w.heap.size v' vs) := by
      unfold Hid WaysRow; rw [← HN.out]; simpa using hO'
    have HG := hid hg'
    clear hO' hg' hg hO h1
    go_enter Tryz.func47, Tryz.ntmps47
    have eqn := fun W a n c n' c' => Lib.run_eql_slice_nil (P := Tryz.prog) W 28 _ a n c n' c' under_ways
    go_wp2_with (at_builtin; refine wpList_append_eq rfl _ _ _ rfl _ _ rfl rfl hr ?_)
    go_ret
    exact ⟨_, rfl, HO.out, HG.out⟩
end Go.Proofs.YtaefpjecalnbcaaGreat
namespace Go.Proofs.YtaefpjecalnbcaaGreat
open Go.RowKit Go.Sort Go.Shelf
/-- what leaves w's old blocks as they were -/
theorem below_sortWorld {α : Type} [Inhabited α] (enc : α → Value) {H blk off m : Nat} {w0 w : World} (hb : Go.RowKit.Below H w0 w) (hg : H ≤ blk) (hH : H ≤ w.heap.size) (dk : Array α) (os : Array Obj) :
    Go.RowKit.Below H w0 (sortWorld enc w blk off m dk os) := by
  refine ⟨hb.os, hb.tape, hb.output, ?_, fun k hk => ?_⟩
  · refine Nat.le_trans hb.size ?_
    rw [sortWorld, size_grow, size_putRow]
    exact Nat.le_add_right _ _
  · rw [sortWorld, heap_grow_old _ _ (by rw [size_putRow]; exact Nat.lt_of_lt_of_le hk hH)]
    refine Eq.trans ?_ (hb.block k hk)
    rw [putRow, mapBlock]
    show (w.heap.modify blk _)[k]? = _
    rw [Array.getElem?_modify, if_neg (by omega)]
/-- a way's value, and the way -/
def WV (w : World) : Type := { p : Value × List Int // IntsAt w p.1 p.2 }
def WV.val {w : World} (p : WV w) : Value := p.1.1
def WV.way {w : World} (p : WV w) : List Int := p.1.2
def WV.mk {w : World} (v : Value) (x : List Int) (h : IntsAt w v x) : WV w := ⟨(v, x), h⟩
theorem WV.way_mk {w : World} (v : Value) (x : List Int) (h : IntsAt w v x) : (WV.mk v x h).way = x := rfl
theorem WV.val_mk {w : World} (v : Value) (x : List Int) (h : IntsAt w v x) : (WV.mk v x h).val = v := rfl
theorem WV.one {w : World} (p : WV w) : (WV.val p).oneCell' = true := by
  obtain ⟨-, a, c, h, -⟩ := p.2.open
  unfold WV.val
  rw [h]; rfl
theorem ltW_ntrans (a b c : List Int) (h1 : ltW a b = false) (h2 : ltW b c = false) : ltW a c = false := by
  cases h : ltW a c with
  | false => rfl
  | true =>
    cases hba : ltW b a with
    | true => rw [ltW_trans b a c hba h] at h2; cases h2
    | false =>
      have e := ltW_total a b h1 hba
      subst e
      rw [h] at h2; cases h2
def cmpWV {w : World} (x y : WV w) : Int := cmpW x.way y.way
theorem ltOf_cmpWV {w : World} (x y : WV w) : ltOf (cmpWV (w := w)) x y = ltW x.way y.way := cmpW_lt _ _
theorem swo_WV (w : World) : SWO (ltOf (cmpWV (w := w))) where
  irrefl x := by rw [ltOf_cmpWV]; exact ltW_irrefl _
  trans x y z h1 h2 := by rw [ltOf_cmpWV] at *; exact ltW_trans _ _ _ h1 h2
  ntrans x y z h1 h2 := by rw [ltOf_cmpWV] at *; exact ltW_ntrans _ _ _ h1 h2
theorem pairwise_of_get {α : Type} [Inhabited α] {R : α → α → Prop} (l : List α) (h : ∀ i j, i < j → j < l.length → R l.toArray[i]! l.toArray[j]!) : l.Pairwise R := by
  rw [List.pairwise_iff_getElem]
  intro i j hi hj hij
  have := h i j hij hj
  rwa [getElem!_pos l.toArray i (by simpa using hi), getElem!_pos l.toArray j (by simpa using hj)] at this
set_option maxHeartbeats 1000000 in
theorem sort_ways {w0 w : World} {base : Nat} {v : Value} (ps : List (WV w0)) (hne : ps ≠ []) (hO : WaysRow w base v (ps.map WV.val)) (hbase : w0.heap.size ≤ base) (hb : Go.RowKit.Below w0.heap.size w0 w) (hlen : ps.length ≤ 1099511627776) :
    Calls Tryz.prog 48 #[v, .func (.func 49) #[] #[]] w fun e w' => e = .returned (.tuple #[]) ∧
      ∃ ps' : List (WV w0), ps'.Perm ps ∧ (ps'.map WV.way).Pairwise (fun a b => ltW b a = false) ∧ Seg w' v 1 ps'.length (ps'.map WV.val) ∧ Go.RowKit.Below w0.heap.size w0 w' := by
  haveI : Inhabited (WV w0) := ⟨ps.head hne⟩
  have hpos : 0 < ps.length := List.length_pos_iff.2 hne
  obtain ⟨h1, hx⟩ := hO
  rcases hx with ⟨-, h2⟩ | ⟨g, cap, cur, rfl, hg, hc, hnc, hcm, hcs, ht⟩
  · simp at h2; exact absurd h2 hne
  have hcell : ∀ j (x : WV w0), ps[j]? = some x → w.cell? ⟨g, j, none⟩ = some x.val := by
    intro j x hj
    rw [cell_of_row _ _ _ cur _ (0, 0) hc]
    have hjl : j < ps.length := (List.getElem?_eq_some_iff.1 hj).1
    have e : (cur.toList.take ((ps.map WV.val).length * 1))[j]? = (ps.map WV.val)[j]? := by rw [ht]
    rw [List.getElem?_take, if_pos (by simpa using hjl)] at e
    rw [← Array.getElem?_toList, e]
    simp [hj]
  have hget : ∀ j, j < ps.length → ps[j]? = some ps.toArray[j]! := fun j hj => by
    rw [getElem!_pos ps.toArray j (by simpa using hj), List.getElem?_eq_getElem hj]; simp
  have hH : Holds WV.val w g 0 ps.toArray := fun j hj => by
    have hj' : j < ps.length := by simpa using hj
    rw [Nat.zero_add]
    refine ⟨hcell j _ (hget j hj'), ?_⟩
    unfold World.frozen?
    rw [hc]; simp
  have hgl : g < w.heap.size := (Array.getElem?_eq_some_iff.1 hc).1
  have hH0 : w0.heap.size ≤ w.heap.size := hb.size
  have key := Any.slices_SortFunc Tryz.laysSF WV.val WV.one (cmpWV (w := w0)) (swo_WV w0) 49 #[] g 0 cap ps.toArray w (fun args w => by simp [go_sem])
    (fun m os dk _ x y => (compare_ints ((x.2).keep (below_keeps (below_sortWorld WV.val hb (Nat.le_trans hbase hg) hH0 dk os))) ((y.2).keep (below_keeps (below_sortWorld WV.val hb (Nat.le_trans hbase hg) hH0 dk os)))).mono
      fun e w' ⟨he, hw⟩ => ⟨he, 0, #[], by rw [hw, grow_empty]; rfl⟩)
    hH hgl (by simp; omega)
  have key2 : Calls Tryz.prog 48 #[.slice (some ⟨g, 0, none⟩) ps.length cap, .func (.func 49) #[] #[]] w _ := key
  rw [List.length_map]
  refine key2.mono ?_
  rintro e w' ⟨rfl, d', n, os, hp, hs, rfl⟩
  obtain ⟨hp1, -, hp3⟩ := hp
  have hsz : d'.toList.length = ps.length := by simpa using hp1
  have hd : d' = d'.toList.toArray := by simp
  refine ⟨rfl, d'.toList, ?_, ?_, ⟨by simp, by rw [hsz]; omega, some ⟨g, 0, none⟩, cap, by rw [hsz], by rw [hsz]; simpa using hnc, by unfold maxLen at hcm; omega, by simp, fun j u hu => ⟨g, 0, rfl, ?_⟩⟩, below_sortWorld WV.val hb (Nat.le_trans hbase hg) hH0 d' os⟩
  · have e1 : (d'.extract 0 ps.toArray.size).toList = d'.toList := by
      rw [Array.toList_extract]; simp [← hsz]; exact List.take_of_length_le (by simp)
    have e2 : (ps.toArray.extract 0 ps.toArray.size).toList = ps := by simp
    rwa [e1, e2] at hp3
  · rw [List.pairwise_map]
    refine pairwise_of_get _ fun i j hij hj => ?_
    have := hs i j (Nat.zero_le _) hij (by simpa [hsz] using hj)
    rw [ltOf_cmpWV] at this
    simpa using this
  · have hj : j < d'.size := by
      have := (List.getElem?_eq_some_iff.1 hu).1
      simpa using this
    have hh := holds_sortWorld WV.val w g 0 n ps.toArray d' os hgl hH (by simpa using hp1) j hj
    rw [hh.1]
    rw [List.getElem?_map] at hu
    rw [← hu, getElem!_pos d' j hj]
    simp [hj]
set_option maxRecDepth 100000 in
set_option maxHeartbeats 4000000 in
theorem insert_none (a : Option Addr) (c : Nat) (fv : Value) (w : World) :
    Calls Tryz.prog 107 #[.slice a 0 c, .int .i64 0, .int .i64 0, fv] w fun e w' => e = .returned (.tuple #[]) ∧ w = w' := by
  go_enter Tryz.func107, Tryz.ntmps107
  go_wp2
  refine wp_loop_rounds 1 ?_
  rw [rounds_succ]
  go_wp2
  go_end0
  exact ⟨rfl, rfl⟩
set_option maxRecDepth 100000 in
set_option maxHeartbeats 4000000 in
theorem pdq_none (a : Option Addr) (c : Nat) (lim : Int) (fv : Value) (w : World) :
    Calls Tryz.prog 74 #[.slice a 0 c, .int .i64 0, .int .i64 0, .int .i64 lim, fv] w fun e w' => e = .returned (.tuple #[]) ∧ w = w' := by
  go_enter Tryz.func74, Tryz.ntmps74
  go_wp2
  refine wp_loop_rounds 1 ?_
  rw [rounds_succ]
  go_wp2_with (go_at_call 107; refine (insert_none _ _ _ _).mono ?_; rintro e w' ⟨rfl, rfl⟩)
  (try simp only [Exit.inBlock, Exit.then]); refine bodyPost_ret (results_none rfl _ _ _) rfl ?_
  exact ⟨rfl, rfl⟩
set_option maxRecDepth 100000 in
set_option maxHeartbeats 4000000 in
theorem sort_none (a : Option Addr) (c : Nat) (F : Nat) (w : World) :
    Calls Tryz.prog 48 #[.slice a 0 c, .func (.func F) #[] #[]] w fun e w' => e = .returned (.tuple #[]) ∧ w = w' := by
  go_enter Tryz.func48, Tryz.ntmps48
  go_wp2_with (first | (go_at_call 75; refine (Tryz.bits_Len 0 _ (by omega) (by omega)).mono ?_; rintro e w' ⟨rfl, rfl⟩) | (go_at_call 74; refine (pdq_none _ _ _ _ _).mono ?_; rintro e w' ⟨rfl, rfl⟩))
  go_end0
  exact ⟨rfl, rfl⟩
/-- .. whatever the list -/
theorem sort_ways_any {w0 w : World} {base : Nat} {v : Value} (ps : List (WV w0)) (hO : WaysRow w base v (ps.map WV.val)) (hbase : w0.heap.size ≤ base) (hb : Go.RowKit.Below w0.heap.size w0 w) (hlen : ps.length ≤ 1099511627776) :
    Calls Tryz.prog 48 #[v, .func (.func 49) #[] #[]] w fun e w' => e = .returned (.tuple #[]) ∧
      ∃ ps' : List (WV w0), ps'.Perm ps ∧ (ps'.map WV.way).Pairwise (fun a b => ltW b a = false) ∧ Seg w' v 1 ps'.length (ps'.map WV.val) ∧ Go.RowKit.Below w0.heap.size w0 w' := by
  by_cases hne : ps = []
  · subst hne
    have hs := row_seg hO (by simp)
    obtain ⟨-, -, a, c, rfl, -⟩ := hs
    refine (sort_none a c _ w).mono ?_
    rintro e w' ⟨rfl, rfl⟩
    exact ⟨rfl, [], List.Perm.refl _, by simp, row_seg hO (by simp), hb⟩
  · exact sort_ways ps hne hO hbase hb hlen
end Go.Proofs.YtaefpjecalnbcaaGreat
namespace Go.Proofs.YtaefpjecalnbcaaGreat
open Go.RowKit
theorem pairs_of {w : World} : ∀ (rows : List (List Value)) (ls : List (List Int)), rows.length = ls.length → (∀ (i : Nat) (r : List Value) (x : List Int), rows[i]? = some r → ls[i]? = some x → WayP w r x) →
    ∃ ps : List (WV w), ps.map WV.way = ls ∧ ps.map WV.val = rows.flatten
  | [], [], _, _ => ⟨[], rfl, rfl⟩
  | [], _ :: _, h, _ => by simp at h
  | _ :: _, [], h, _ => by simp at h
  | r :: rows, x :: ls, h, hp => by
    obtain ⟨v, rfl, hI⟩ := hp 0 r x rfl rfl
    obtain ⟨ps, h1, h2⟩ := pairs_of rows ls (by simpa using h) fun i r x hr hx => hp (i + 1) r x (by simpa using hr) (by simpa using hx)
    exact ⟨WV.mk v x hI :: ps, by rw [List.map_cons, h1, WV.way_mk], by rw [List.map_cons, h2, WV.val_mk]; rfl⟩
theorem WaysAt.pairs {w : World} {v : Value} {ls : List (List Int)} (h : WaysAt w v ls) : ∃ ps : List (WV w), ps.map WV.way = ls ∧ Seg w v 1 ps.length (ps.map WV.val) := by
  obtain ⟨rows, h1, -, h3, h4⟩ := h
  obtain ⟨ps, e1, e2⟩ := pairs_of rows ls h1 h4
  have e3 : ps.length = ls.length := by rw [← e1, List.length_map]
  exact ⟨ps, e1, by rw [e2, e3]; exact h3⟩
theorem wv_vals_one {w : World} (ps : List (WV w)) : ∀ u ∈ ps.map WV.val, u.oneCell' = true := by
  intro u hu
  obtain ⟨p, -, rfl⟩ := List.mem_map.1 hu
  exact p.one
/-- what a walk wants of the values in their row -/
theorem seg_wv {w0 w : World} {v : Value} {ps : List (WV w0)} (h : Seg w v 1 ps.length (ps.map WV.val)) : ∃ a cap, v = .slice a ps.length cap ∧ ∀ k (p : WV w0), ps[k]? = some p → ∃ b o a2 c2, a = some ⟨b, o, none⟩ ∧ w.cell? ⟨b, o + k, none⟩ = some (.slice a2 p.way.length c2) ∧ IntsAt w0 (.slice a2 p.way.length c2) p.way := by
  obtain ⟨-, -, a, cap, hv, -, -, -, hc⟩ := h
  refine ⟨a, cap, hv, fun k p hk => ?_⟩
  obtain ⟨b, o, ha, hcell⟩ := hc k p.val (by simp [hk])
  have hI := p.2
  have hI' := hI
  obtain ⟨-, a2, c2, hv2, -, -⟩ := hI'.open
  refine ⟨b, o, a2, c2, ha, ?_, ?_⟩
  · rw [hcell]; exact congrArg some hv2
  · show IntsAt w0 (.slice a2 p.1.2.length c2) p.1.2
    rw [← hv2]; exact hI
/-- one step of the sieve -/
theorem sieve_skip {o : List (List Int)} {w : List Int} {r : List (List Int)} (h : w = [] ∨ (∃ u, o.getLast? = some u ∧ u <+: w)) : sieveW o (w :: r) = sieveW o r := by rw [sieveW, if_pos h]
theorem sieve_take {o : List (List Int)} {w : List Int} {r : List (List Int)} (h : ¬ (w = [] ∨ (∃ u, o.getLast? = some u ∧ u <+: w))) : sieveW o (w :: r) = sieveW (o ++ [w]) r := by rw [sieveW, if_neg h]
theorem ints_one {w : World} {base : Nat} {v : Value} {l : List Int} (h : IntsOwn w base v l) : v.oneCell' = true := by
  obtain ⟨a, c, rfl⟩ := h.form
  rfl
theorem IntsOwn.apart {w : World} {n0 base : Nat} {v : Value} {l : List Int} (h : IntsOwn w base v l) (hn : l.length ≤ 140737488355328) (hl : ∀ x ∈ l, i64ok x) : Apart n0 base w (fun w' => WayP w' [v] l) := fun _ hw' =>
  ⟨v, rfl, IntsOwn.ints (row_keep h fun b _ hb he => hw' b (Array.getElem?_eq_some_iff.1 he).1 (.inr hb)) hn hl⟩
/-- the ways' lengths are in reach -/
def LightW (ls : List (List Int)) : Prop := ls.length ≤ 1099511627776 ∧ ∀ l ∈ ls, l.length ≤ 17592186044416
/-- ways that lie in what was laid since w -/
def NewWays (w w' : World) (v : Value) (o : List (List Int)) : Prop := o.length ≤ 1099511627776 ∧ ∃ base, w.heap.size ≤ base ∧ RowsOwn WayP 68 1 0 base w' v o
theorem NewWays.here {w w' : World} {v : Value} {o : List (List Int)} (h : NewWays w w' v o) : WaysAt w' v o := by
  obtain ⟨hl, base, -, h⟩ := h
  exact h.at (by omega) fun _ _ _ => rfl
/-- .. a store into what was there before, new blocks -/
theorem NewWays.later {w0 w w' w2 : World} {v : Value} {o : List (List Int)} (h : NewWays w w' v o) (h0 : w0.heap.size ≤ w.heap.size) (hs : w'.heap.size ≤ w2.heap.size) (hw : ∀ b, w.heap.size ≤ b → b < w'.heap.size → w2.heap[b]? = w'.heap[b]?) : NewWays w0 w2 v o := by
  obtain ⟨hl, base, hb, h⟩ := h
  refine ⟨hl, base, Nat.le_trans h0 hb, h.later (fun b h1 h2 => hw b (by omega) h1) hs⟩
/-- one of the ways: its value, and that it stays where the new blocks stay -/
theorem NewWays.elem {w w' : World} {v : Value} {o : List (List Int)} (h : NewWays w w' v o) {k : Nat} {x : List Int} (hk : o[k]? = some x) : ∃ b q a c, (v = .slice (some ⟨b, q, none⟩) o.length (match v with | .slice _ _ c => c | _ => 0)) ∧ w'.cell? ⟨b, q + k, none⟩ = some (.slice a x.length c) ∧ w.heap.size ≤ b ∧ b < w'.heap.size ∧
    ∀ W, (∀ b, w.heap.size ≤ b → b < w'.heap.size → W.heap[b]? = w'.heap[b]?) → IntsAt W (.slice a x.length c) x := by
  have hh := h.here
  obtain ⟨hl, base, hb, rows, h1, h2, h3, h4⟩ := h
  have hkl : k < o.length := (List.getElem?_eq_some_iff.1 hk).1
  have hr : rows[k]? = some (rows[k]'(by omega)) := List.getElem?_eq_getElem (by omega)
  generalize rows[k]'(by omega) = r at hr
  obtain ⟨y, rfl, hI⟩ := h4 w' (fun _ _ _ _ => rfl) k r x hr hk
  have hI' := hI
  obtain ⟨-, a, c, rfl, -, -⟩ := hI'.open
  have hflat := flatten_get rows k 0 _ h2 hr (by decide)
  rcases h3.2 with ⟨rfl, h0⟩ | ⟨g, cap, cur, rfl, hg, hc, hnc, hcm, hcs, ht⟩
  · omega
  · refine ⟨g, 0, a, c, rfl, ?_, by omega, (Array.getElem?_eq_some_iff.1 hc).1, fun W hW => ?_⟩
    · have := World.ownsRow.cells h3 (g := g) rfl k _ (by simpa using hflat)
      rwa [addr_add] at this
    · obtain ⟨y, e, hI2⟩ := h4 W (fun b h5 _ h6 => hW b (by omega) h5) k _ x hr hk
      cases e
      exact hI2
def MaskPost (w : World) (o : List (List Int)) (e : Ending) (w' : World) : Prop := ∃ v', e = .returned (maskV v') ∧ NewWays w w' v' o ∧ Below w.heap.size w w'
set_option maxRecDepth 100000 in
set_option maxHeartbeats 4000000 in
theorem mask_Of {w : World} {v : Value} {ls : List (List Int)} (h : WaysAt w v ls) (hL : LightW ls) :
    Calls Tryz.prog 23 #[v] w (MaskPost w (mOf ls)) := by
  have hA : Below w.heap.size w (w.alloc (.cells #[.slice none 0 0] 41)) := (Below.refl _ _).alloc (Nat.le_refl _) _
  obtain ⟨wA, HA⟩ : ∃ wA, Hid (wA = w.alloc (.cells #[.slice none 0 0] 41)) := ⟨_, rfl⟩
  have HBX : Hid (Blk wA w.heap.size [.slice none 0 0] 41) := by rw [HA.out]; exact Blk.new w [.slice none 0 0] _
  rw [← HA.out] at hA
  have HSZ : Hid (wA.heap.size = w.heap.size + 1) := by rw [HA.out]; simp [Hid]
  obtain ⟨ps, e1, hseg⟩ := (h.below hA).pairs
  have HWA := hid hA
  have HL := hid hL
  have hpl : ps.length = ls.length := by rw [← e1, List.length_map]
  have HCL := hid (clone_ways (w := wA) (vs := ps.map WV.val) (by rw [List.length_map]; exact hseg) (wv_vals_one ps) (by rw [List.length_map, hpl]; exact hL.1))
  obtain ⟨-, a, c, rfl, -, -⟩ := h.open
  obtain ⟨n, HN⟩ : ∃ n, Hid (n = ls.length) := ⟨_, rfl⟩
  rw [← HN.out] at HCL ⊢
  obtain ⟨Q, HQ⟩ : ∃ Q : Ending → World → Prop, Hid (Q = MaskPost w (mOf ls)) := ⟨_, rfl⟩
  rw [← HQ.out]
  have HE := hid e1
  have HPL := hid hpl
  clear h hA hL e1 hseg hpl
  go_enter Tryz.func23, Tryz.ntmps23
  go_wp2_with fail
  rw [← HA.out]
  refine HCL.out.mono ?_
  rintro e w1 ⟨v1, rfl, hO, hB1⟩
  have HSORT := hid (sort_ways_any ps hO (Nat.le_refl _) hB1 (by rw [HPL.out]; exact HL.out.1))
  have HB1 := hid hB1
  have hv1 := row_seg hO (by rw [List.length_map, HPL.out]; have := HL.out.1; omega)
  obtain ⟨-, -, a1, c1, rfl, -⟩ := hv1
  have hvn : (ps.map WV.val).length = n := by rw [List.length_map, HPL.out, HN.out]
  rw [hvn] at HSORT ⊢
  clear hO hB1 hvn
  go_wp2_with fail
  refine HSORT.out.mono ?_
  rintro e w2 ⟨rfl, ps', hperm, hpw, hseg, hB2⟩
  have hps : ps'.length = n := by rw [hperm.length_eq, HPL.out, HN.out]
  rw [hps] at hseg
  have HSEG := hid hseg
  obtain ⟨s, HS⟩ : ∃ s, Hid (s = ps'.map WV.way) := ⟨_, rfl⟩
  have HGET : Hid (∀ k (x : List Int), s[k]? = some x → ∃ b o a2 c2, a1 = some ⟨b, o, none⟩ ∧ w2.cell? ⟨b, o + k, none⟩ = some (.slice a2 x.length c2) ∧ IntsAt wA (.slice a2 x.length c2) x ∧ x.length ≤ 17592186044416) := by
    obtain ⟨a3, c3, hv3, hc3⟩ := seg_wv (ps := ps') (by rw [hps]; exact hseg)
    cases hv3
    intro k x hx
    rw [HS.out, List.getElem?_map] at hx
    obtain ⟨p, hp, rfl⟩ := Option.map_eq_some_iff.1 hx
    obtain ⟨b, o, a2, c2, h1, h2, h3⟩ := hc3 k p hp
    refine ⟨b, o, a2, c2, h1, h2, h3, HL.out.2 _ ?_⟩
    rw [← HE.out]
    exact List.mem_map.2 ⟨p, (hperm.mem_iff).1 (List.mem_of_getElem? hp), rfl⟩
  have HSN : Hid (n = s.length) := by rw [Hid, HS.out, List.length_map, hps]
  have HM : Hid (sieveW [] s = mOf ls) := by
    refine sieve_rOf (fun x => ?_) (by rw [HS.out]; exact hpw)
    rw [HS.out, ← HE.out]
    exact (hperm.map WV.way).mem_iff
  have HB2 := hid hB2
  have HW2 : Hid (w.heap.size ≤ w2.heap.size) := by have := hB2.size; have := HSZ.out; show _ ≤ _; omega
  have HNL : Hid (n ≤ 1099511627776) := by rw [Hid, HN.out]; exact HL.out.1
  have hn := HNL.out
  clear hperm hpw hseg hB2 hps HSORT HCL
  go_wp2_with fail
  go_loopw [4, 13] (fun v4 v13 wr => ∃ (k : Nat) (o : List (List Int)), v13 = .int .i64 k ∧ k ≤ n ∧ Hid (RowsOwn WayP 68 1 0 w2.heap.size wr v4 o ∧ o.length ≤ k ∧ sieveW o (s.drop k) = mOf ls ∧ Below w2.heap.size w2 wr)) (fun _ v13 _ => n - (intOf v13).toNat)
  case atStart => exact ⟨0, [], rfl, by omega, RowsOwn.nil _ _ _ _ _ _, by simp, HM.out, Below.refl _ _⟩
  case round =>
    obtain ⟨k, o, rfl, hk, HI⟩ := hrel
    have hOF := HI.out.1.form
    obtain ⟨oa, oc, hoe⟩ := hOF
    obtain ⟨j, HJ⟩ : ∃ j, Hid (j = o.length) := ⟨_, rfl⟩
    rw [← HJ.out] at hoe
    subst hoe
    have hjk : j ≤ k := by rw [HJ.out]; exact HI.out.2.1
    by_cases hlt : k < n
    · obtain ⟨x, hx⟩ := way_get HSN.out hlt
      obtain ⟨b, q, xa, xc, ha, g0, hX, hxl⟩ := HGET.out k x hx
      replace g0 := below_keeps HI.out.2.2.2 _ _ g0
      have HXW := hid ((hX.below HB2.out).below HI.out.2.2.2)
      have HXL := hid hxl
      have hix := index_run1 Tryz.underlying28 size_ints ha k hlt (cap := c1)
      have HD := hid (drop_at hx)
      obtain ⟨m, HMM⟩ : ∃ m, Hid (m = x.length) := ⟨_, rfl⟩
      rw [← HMM.out] at g0 HXW
      have HX64 := hid hX.2
      clear hx hX ha hxl
      by_cases hm : m = 0
      · subst hm
        have HSK := hid (sieve_skip (o := o) (w := x) (r := s.drop (k + 1)) (.inl (List.length_eq_zero_iff.1 HMM.out.symm)))
        go_wp2_with fail
        go_roundw
        case rel => exact ⟨k + 1, o, by go_num, hlt, HI.out.1, by have := HI.out.2.1; omega, by rw [← HSK.out, ← HD.out]; exact HI.out.2.2.1, HI.out.2.2.2⟩
        case measure => simp [intOf]; omega
      · have HXN : Hid (x ≠ []) := fun e => hm (by rw [HMM.out, e]; rfl)
        have e1 : ((m : Int) == 0) = false := by simp; omega
        have e2 : (m == 0) = false := by simp; omega
        have e3 : decide ((m : Int) = 0) = false := by simp; omega
        by_cases hj : j = 0
        · subst hj
          have HO0 : Hid (o = []) := List.length_eq_zero_iff.1 HJ.out.symm
          have HTK := hid (sieve_take (o := o) (w := x) (r := s.drop (k + 1)) (by rw [HO0.out]; simp; exact HXN.out))
          go_wp2_with fail
          have hcl := clone_ints (HXW.out) HXL.out
          refine hcl.mono ?_
          clear hcl
          rintro e w4 ⟨v5, rfl, hO5, hB5⟩
          obtain ⟨a5, c5, hv5⟩ := hO5.form
          rw [← HMM.out] at hv5
          subst hv5
          obtain ⟨a', c', w6, hr, hO6, hB6, hB7⟩ := (HI.out.1).step hB5 (by decide) (Nat.zero_le _) HI.out.2.2.2.size HJ.out.symm (G := Tryz.prog) 28 (.slice none 0 0) 24 under_ways info_ints rfl #[.slice a5 m c5] rfl (by intro u hu; simp at hu; subst hu; exact ints_one hO5) x (hO5.apart (by have := HXL.out; omega) HX64.out) (by have := HNL.out; omega) (by decide)
          have HO6 := hid hO6
          have HB7 := hid hB7
          clear hO5 hB5 hO6 hB6 hB7
          go_wp2_with (at_builtin; refine wpList_append_eq rfl _ _ _ rfl _ _ rfl rfl hr ?_)
          go_roundw
          case rel => exact ⟨k + 1, o ++ [x], by go_num, hlt, HO6.out, by rw [List.length_append]; have := HI.out.2.1; simp; omega, by rw [← HTK.out, ← HD.out]; exact HI.out.2.2.1, HI.out.2.2.2.trans HB7.out⟩
          case measure => simp [intOf]; omega
        · have hj0 : 0 < j := by omega
          obtain ⟨u, HU⟩ : ∃ u, Hid (o[j - 1]? = some u) := way_get HJ.out (by omega)
          have HLAST : Hid (o.getLast? = some u) := by rw [Hid, List.getLast?_eq_getElem?, ← HJ.out]; exact HU.out
          have hWA := RowsOwn.at HI.out.1 (by have := HI.out.2.1; have := HNL.out; omega) (w' := wr) (fun _ _ _ => rfl)
          obtain ⟨-, oa', oc', hoe, -, hoat⟩ := WaysAt.open hWA
          rw [← HJ.out] at hoe
          cases hoe
          obtain ⟨b2, q2, ua, uc, ha2, g2, hU⟩ := hoat (j - 1) u HU.out
          have hix2 := index_run1 Tryz.underlying28 size_ints ha2 (j - 1) (by omega : j - 1 < j) (cap := oc)
          rw [show ((j - 1 : Nat) : Int) = (j : Int) - 1 by omega] at hix2
          have HUW := hid hU
          obtain ⟨um, HUM⟩ : ∃ um, Hid (um = u.length) := ⟨_, rfl⟩
          rw [← HUM.out] at g2 HUW
          have hBEG := mask_begins HXW.out HUW.out
          obtain ⟨y, HY⟩ : ∃ y, Hid (y = beginsW x u) := ⟨_, rfl⟩
          rw [← HY.out] at hBEG
          have HBEG := hid hBEG
          clear hBEG hWA hoat ha2 hU
          cases y with
          | true =>
            have HSK := hid (sieve_skip (o := o) (w := x) (r := s.drop (k + 1)) (.inr ⟨u, HLAST.out, (beginsW_iff _ _).1 HY.out.symm⟩))
            go_wp2_with (go_at_call 50; refine HBEG.out.mono ?_; rintro e w' ⟨rfl, hd⟩; have HDW := hid hd.below; clear hd)
            go_roundw
            case rel => exact ⟨k + 1, o, by go_num, hlt, HI.out.1.below HDW.out, by have := HI.out.2.1; omega, by rw [← HSK.out, ← HD.out]; exact HI.out.2.2.1, below_step HI.out.2.2.2 HDW.out HI.out.2.2.2.size⟩
            case measure => simp [intOf]; omega
          | false =>
            have HTK := hid (sieve_take (o := o) (w := x) (r := s.drop (k + 1)) (by rintro (e | ⟨u2, e, hp⟩); exact HXN.out e; rw [HLAST.out] at e; cases e; have := (beginsW_iff x u).2 hp; rw [← HY.out] at this; cases this))
            go_wp2_with (go_at_call 50; refine HBEG.out.mono ?_; rintro e w3 ⟨rfl, hd⟩; have HDW := hid hd.below; clear hd)
            have hcl := clone_ints (HXW.out.below HDW.out) HXL.out
            refine hcl.mono ?_
            clear hcl
            rintro e w4 ⟨v5, rfl, hO5, hB5⟩
            obtain ⟨a5, c5, hv5⟩ := hO5.form
            rw [← HMM.out] at hv5
            subst hv5
            obtain ⟨a', c', w6, hr, hO6, hB6, hB7⟩ := (HI.out.1.below HDW.out).step hB5 (by decide) (Nat.zero_le _) (Nat.le_trans HI.out.2.2.2.size HDW.out.size) HJ.out.symm (G := Tryz.prog) 28 (.slice none 0 0) 24 under_ways info_ints rfl #[.slice a5 m c5] rfl (by intro u hu; simp at hu; subst hu; exact ints_one hO5) x (hO5.apart (by have := HXL.out; omega) HX64.out) (by have := HNL.out; omega) (by decide)
            have HO6 := hid hO6
            have HB7 := hid hB7
            clear hO5 hB5 hO6 hB6 hB7
            go_wp2_with (at_builtin; refine wpList_append_eq rfl _ _ _ rfl _ _ rfl rfl hr ?_)
            go_roundw
            case rel => exact ⟨k + 1, o ++ [x], by go_num, hlt, HO6.out, by rw [List.length_append]; have := HI.out.2.1; simp; omega, by rw [← HTK.out, ← HD.out]; exact HI.out.2.2.1, (below_step HI.out.2.2.2 HDW.out HI.out.2.2.2.size).trans HB7.out⟩
            case measure => simp [intOf]; omega
    · obtain rfl : k = n := by omega
      have HEN : Hid (o = mOf ls) := by
        have := HI.out.2.2.1
        rw [List.drop_eq_nil_of_le (by rw [← HSN.out]; omega)] at this
        exact this
      have HBX2 := hid ((HBX.out.below HB2.out).below HI.out.2.2.2)
      have c0 := HBX2.out.cell 0 _ rfl
      have f0 := HBX2.out.free 0
      have hsz := HBX2.out.lt
      have HFIN : Hid (MaskPost w (mOf ls) (.returned (maskV (.slice oa j oc))) (wr.setCell ⟨w.heap.size, 0, none⟩ (.slice oa j oc))) := by
        have hw2 : w.heap.size + 1 ≤ w2.heap.size := by have := HB2.out.size; have := HSZ.out; omega
        refine ⟨_, rfl, ?_, ?_⟩
        · rw [← HEN.out]
          refine ⟨by rw [← HJ.out]; have := HNL.out; omega, w2.heap.size, by omega, ?_⟩
          exact HI.out.1.later (fun b hb hc => Below.heap_setCell _ _ _ _ (by show b ≠ w.heap.size; omega)) (by simp)
        · have h1 : Below w.heap.size w w2 := HWA.out.trans (HB2.out.mono (by have := HSZ.out; omega))
          exact (h1.trans (HI.out.2.2.2.mono (by omega))).setCell (Nat.le_refl _) _
      have HCS : Hid ((wr.setCell ⟨w.heap.size, 0, none⟩ (.slice oa j oc)).cell? ⟨w.heap.size, 0, none⟩ = some (.slice oa j oc)) := World.cell?_setCell_same' _ _ _ (by rw [c0]; rfl)
      clear hlt
      go_wp2_with fail
      rw [HQ.out]
      refine bodyPost_ret (v := maskV (.slice oa j oc)) (by simp [results, Tryz.results23, go_sem, maskV, HCS.out]) rfl HFIN.out
end Go.Proofs.YtaefpjecalnbcaaGreat
