/- Parts of a proof: texts of the author, merged. No condition of their own. -/
import Derived.Test.YtbdeclkccchnoaaGreatZ08
import Derived.Test.YtbdeclkccchnoaaGreatZ10
import Derived.Test.YtbdeclkccchnoaaGreatZ12
import Derived.Test.YtbdeclkccchnoaaGreatZ13
import Derived.Test.YtbdeclkccchnoaaGreatZ22
import Derived.Test.YtbdeclkccchnoaaGreatZ23
namespace Go.Proofs.YtbdeclkccchnoaaGreat
open Go.RowKit
structure AR where
  k : Int
  run : Bool
  val : List UInt8
  whole : List UInt8
def arOf (l : List UInt8) (x : VW) : AR := ⟨x.k, x.run, vbytes l x, part l x.r.start x.r.to⟩
def arecs (fs : List Fld) (l : List UInt8) : List AR := (vall fs l).1.map (arOf l)
theorem part_ahead {p : List UInt8} (l : List UInt8) {i j : Nat} (h : j ≤ p.length) : part (p ++ l) i j = part p i j := by
  by_cases hij : i ≤ j
  · exact part_app l h hij
  · unfold part
    rw [show j - i = 0 by omega, List.take_zero, List.take_zero]
theorem vallGo_end (fs : List Fld) (l : List UInt8) (n i : Nat) (h : l.length ≤ i) : vallGo fs l n i = ([], 0, 0) := by
  cases n with
  | zero => rfl
  | succ n => rw [vallGo, if_pos h]
theorem vallGo_next (fs : List Fld) (l : List UInt8) (n i : Nat) (h : ¬ l.length ≤ i) (hc : (vlook fs l i).2.2.2 = 0) : vallGo fs l (n + 1) i =
    if (vallGo fs l n (vlook fs l i).1.to).2.2 ≠ 0 then ([], (vallGo fs l n (vlook fs l i).1.to).2.1, (vallGo fs l n (vlook fs l i).1.to).2.2) else (⟨(vlook fs l i).1, (vlook fs l i).2.1, (vlook fs l i).2.2.1⟩ :: (vallGo fs l n (vlook fs l i).1.to).1, 0, 0) := by
  rw [vallGo, if_neg h, if_neg (by omega)]
theorem vallGo_behind (fs : List Fld) (p l : List UInt8) : ∀ (n i N : Nat), l.length ≤ n + i → l.length ≤ N + i → (vallGo fs l n i).2.2 = 0 →
    (vallGo fs (p ++ l) N (p.length + i)).2.2 = 0 ∧ (vallGo fs (p ++ l) N (p.length + i)).1.map (arOf (p ++ l)) = (vallGo fs l n i).1.map (arOf l)
  | 0, i, N, hn, hN, _ => by
    rw [vallGo_end fs (p ++ l) N _ (by rw [List.length_append]; omega), vallGo_end fs l 0 i (by omega)]
    exact ⟨rfl, rfl⟩
  | n + 1, i, N, hn, hN, h => by
    by_cases hi : l.length ≤ i
    · rw [vallGo_end fs (p ++ l) N _ (by rw [List.length_append]; omega), vallGo_end fs l (n + 1) i hi]
      exact ⟨rfl, rfl⟩
    obtain ⟨N, rfl⟩ : ∃ N', N = N' + 1 := ⟨N - 1, by omega⟩
    by_cases hc : (vlook fs l i).2.2.2 = 0
    · have hs := vlook_shift fs p l hc
      have hto := vlook_to fs l i hc
      rw [vallGo_next fs l n i hi hc] at h ⊢
      rw [vallGo_next fs (p ++ l) N _ (by rw [List.length_append]; omega) (by rw [hs])]
      by_cases h2 : (vallGo fs l n (vlook fs l i).1.to).2.2 = 0
      · obtain ⟨g1, g2⟩ := vallGo_behind fs p l n (vlook fs l i).1.to N (by omega) (by omega) h2
        rw [hs]
        have e : (Rec.shift p.length (vlook fs l i).1).to = p.length + (vlook fs l i).1.to := rfl
        simp only [e]
        rw [if_neg (by omega), if_neg (by omega)]
        refine ⟨rfl, ?_⟩
        simp only [List.map_cons]
        rw [g2]
        congr 1
        unfold arOf vbytes Rec.shift
        simp only
        rw [part_shift, part_shift]
      · rw [if_pos h2] at h; exact absurd h h2
    · rw [vallGo, if_neg hi, if_pos hc] at h
      exact absurd h hc
theorem vallGo_ahead (fs : List Fld) (p l : List UInt8) (hl : (vall fs l).2.2 = 0) : ∀ (n i N : Nat), p.length ≤ n + i → (p ++ l).length ≤ N + i → i ≤ p.length → (vallGo fs p n i).2.2 = 0 →
    (vallGo fs (p ++ l) N i).2.2 = 0 ∧ (vallGo fs (p ++ l) N i).1.map (arOf (p ++ l)) = (vallGo fs p n i).1.map (arOf p) ++ arecs fs l
  | n, i, N, hn, hN, hi, h => by
    by_cases hip : p.length ≤ i
    · obtain rfl : i = p.length := by omega
      rw [vallGo_end fs p n _ (Nat.le_refl _)]
      rw [List.length_append] at hN
      have := vallGo_behind fs p l l.length 0 N (by omega) (by omega) hl
      exact ⟨this.1, this.2⟩
    cases n with
    | zero => omega
    | succ n =>
      obtain ⟨N, rfl⟩ : ∃ N', N = N' + 1 := ⟨N - 1, by rw [List.length_append] at hN; omega⟩
      by_cases hc : (vlook fs p i).2.2.2 = 0
      · have hs := vlook_app fs l hc
        have hto := vlook_to fs p i hc
        have hb := vlook_bds hc
        rw [vallGo_next fs p n i hip hc] at h ⊢
        rw [vallGo_next fs (p ++ l) N i (by rw [List.length_append]; omega) (by rw [hs]; exact hc)]
        by_cases h2 : (vallGo fs p n (vlook fs p i).1.to).2.2 = 0
        · obtain ⟨g1, g2⟩ := vallGo_ahead fs p l hl n (vlook fs p i).1.to N (by omega) (by omega) hto.2 h2
          rw [hs, if_neg (by omega), if_neg (by omega)]
          refine ⟨rfl, ?_⟩
          simp only [List.map_cons, List.cons_append]
          rw [g2]
          congr 1
          unfold arOf vbytes
          simp only
          rw [part_ahead l hb.2, part_ahead l hb.2]
        · rw [if_pos h2] at h; exact absurd h h2
      · rw [vallGo, if_neg hip, if_pos hc] at h
        exact absurd h hc
theorem arecs_app {fs : List Fld} {p l : List UInt8} (hp : (vall fs p).2.2 = 0) (hl : (vall fs l).2.2 = 0) : (vall fs (p ++ l)).2.2 = 0 ∧ arecs fs (p ++ l) = arecs fs p ++ arecs fs l := by
  have := vallGo_ahead fs p l hl p.length 0 (p ++ l).length (by omega) (by omega) (by omega) hp
  exact this
theorem arecs_nil (fs : List Fld) : (vall fs []).2.2 = 0 ∧ arecs fs [] = [] := ⟨rfl, rfl⟩
theorem arecs_flat {fs : List Fld} : ∀ {ls : List (List UInt8)}, (∀ l ∈ ls, (vall fs l).2.2 = 0) → (vall fs ls.flatten).2.2 = 0 ∧ arecs fs ls.flatten = ls.flatMap (arecs fs)
  | [], _ => arecs_nil fs
  | l :: r, h => by
    obtain ⟨h1, h2⟩ := arecs_flat (ls := r) fun x hx => h x (by simp [hx])
    obtain ⟨g1, g2⟩ := arecs_app (h l (by simp)) h1
    rw [List.flatten_cons, List.flatMap_cons]
    exact ⟨g1, by rw [g2, h2]⟩
def arW (f : Fld) (x : AR) : List Nat := if x.run = true then (runWords f.kind x.val).1 else if knumber f.kind = true then [(kread f.kind x.val).1] else []
def arB (f : Fld) (x : AR) : List (List UInt8) := if x.run = true ∨ knumber f.kind = true then [] else [x.val]
def fieldA {α : Type} (sub : Int → List UInt8 → List α) (f : Fld) (xs : List AR) : Val α :=
  ⟨f.number, (counts f xs).flatMap (arW f), if f.kind = 17 then [] else (counts f xs).flatMap (arB f),
    if f.kind = 17 then (if f.rep = true then xs.flatMap (fun x => sub f.of x.val) else if xs = [] then [] else sub f.of (xs.flatMap AR.val)) else []⟩
def msgA {α : Type} (sub : Int → List UInt8 → List α) (fs : List Fld) (xs : List AR) : Msgd α :=
  ⟨((sortedF fs).map fun i => fieldA sub (fs.getD i.toNat .zero) (xs.filter fun x => decide (x.k = i))).filter (fun v => decide (0 < many v)), (xs.filter fun x => decide (x.k < 0)).map AR.whole⟩
theorem counts_map {α β : Type} (f : Fld) (g : α → β) (xs : List α) : counts f (xs.map g) = (counts f xs).map g := by
  unfold counts
  split
  · rfl
  · unfold lastOf; rw [List.length_map, List.map_drop]
theorem fieldA_of {α : Type} (sub : Int → List UInt8 → List α) (f : Fld) (l : List UInt8) (xs : List VW) : fieldA sub f (xs.map (arOf l)) = fieldV sub f l xs := by
  unfold fieldA fieldV
  rw [counts_map, List.flatMap_map, List.flatMap_map, List.flatMap_map, List.flatMap_map]
  simp only [List.map_eq_nil_iff]
  rfl
theorem msgA_of {α : Type} (sub : Int → List UInt8 → List α) (fs : List Fld) (l : List UInt8) : msgA sub fs (arecs fs l) = msgOf sub fs l := by
  unfold msgA msgOf arecs
  congr 1
  · congr 1
    refine List.map_congr_left fun i _ => ?_
    rw [← fieldA_of]
    congr 1
    unfold viewsOf
    rw [List.filter_map]
    rfl
  · rw [List.filter_map, List.map_map]
    rfl
end Go.Proofs.YtbdeclkccchnoaaGreat
namespace Go.Proofs.YtbdeclkccchnoaaGreat
open Go.RowKit
theorem rnext_rput {n x : Nat} (ht : tagOk n x = true) {t : List UInt8} (hf : rfits (x : Int) t = true) (hl : t.length < 2 ^ 64) :
    ∃ h, rnext (rput n x t) 0 = (⟨n, x, 0, h, h + t.length⟩, 0) ∧ (rput n x t).length = h + t.length ∧ part (rput n x t) h (h + t.length) = t ∧ 0 < h := by
  have ht' : (1 : Int) ≤ n ∧ (n : Int) ≤ 536870911 ∧ ((x : Int) = 0 ∨ (x : Int) = 1 ∨ (x : Int) = 2 ∨ (x : Int) = 5) := of_decide_eq_true ht
  have hx : x = 0 ∨ x = 1 ∨ x = 2 ∨ x = 5 := by omega
  have ha : 8 * n + x < 2 ^ 64 := by omega
  have hpos := vput_pos (8 * n + x)
  rw [rput_nat]
  obtain ⟨L, hL⟩ : ∃ L, L = (if x = 2 then vput t.length else []) := ⟨_, rfl⟩
  rw [← hL]
  have hv : vread (vput (8 * n + x) ++ (L ++ t)) = (8 * n + x, (vput (8 * n + x)).length, 0) := by
    rw [vread_app _ (by rw [vread_vput ha]), vread_vput ha]
  have htr : tread (vput (8 * n + x) ++ (L ++ t)) = (n, x, (vput (8 * n + x)).length, 0) := by
    unfold tread
    rw [hv]
    have h8 : (8 * n + x) / 8 = n := by omega
    have h9 : (8 * n + x) % 8 = x := by omega
    simp only [h8, h9]
    rw [if_neg (by simp), if_neg (by rw [ht]; simp; omega)]
  have hd : (vput (8 * n + x) ++ (L ++ t)).drop (vput (8 * n + x)).length = L ++ t := List.drop_left
  have hsz : rsize x (L ++ t) = (L.length, t.length, 0) := by
    unfold rsize
    rcases hx with rfl | rfl | rfl | rfl
    · rw [if_neg (by decide)] at hL
      subst hL
      unfold rfits at hf
      simp at hf
      simp [hf.1, hf.2]
    · rw [if_neg (by decide)] at hL
      subst hL
      unfold rfits at hf
      simp at hf
      simp [hf]
    · rw [if_pos rfl] at hL
      subst hL
      rw [if_neg (by decide), if_neg (by decide), if_neg (by decide), vread_app _ (by rw [vread_vput hl]), vread_vput hl]
    · rw [if_neg (by decide)] at hL
      subst hL
      unfold rfits at hf
      simp at hf
      simp [hf]
  refine ⟨(vput (8 * n + x)).length + L.length, ?_, by simp; omega, ?_, by omega⟩
  · unfold rnext
    rw [if_neg (by rw [List.length_append]; omega), List.drop_zero, htr]
    simp only [Nat.zero_add]
    rw [if_neg (by simp), hd, hsz]
    simp only
    rw [if_neg (by simp), if_neg (by simp; omega)]
  · unfold part
    rw [← List.append_assoc, Nat.add_sub_cancel_left]
    rw [show (vput (8 * n + x)).length + L.length = (vput (8 * n + x) ++ L).length by simp, List.drop_left, List.take_length]
theorem part_all (l : List UInt8) : part l 0 l.length = l := by unfold part; simp
theorem arecs_rput {fs : List Fld} {q n x : Nat} (_hq : q < fs.length) (hn : fieldAt fs (n : Int) = q) (ht : tagOk n x = true) {t : List UInt8} (hf : rfits (x : Int) t = true) (hl : t.length < 2 ^ 64) {run : Bool}
    (hrun : run = ((fs.getD q .zero).rep && knumber (fs.getD q .zero).kind && decide (x = 2))) (hk : run = true ∨ kright (fs.getD q .zero).kind = true ∧ kwire (fs.getD q .zero).kind = x) :
    (vall fs (rput n x t)).2.2 = 0 ∧ arecs fs (rput n x t) = [(⟨(q : Int), run, t, rput n x t⟩ : AR)] := by
  obtain ⟨h, h1, h2, h3, h4⟩ := rnext_rput ht hf hl
  have hlook : vlook fs (rput n x t) 0 = ((⟨n, x, 0, h, h + t.length⟩ : Rec), (q : Int), run, 0) := by
    unfold vlook
    rw [h1]
    simp only
    rw [if_neg (by simp), hn, if_neg (by omega), Int.toNat_natCast]
    have e : ((fs.getD q Fld.zero).rep && knumber (fs.getD q Fld.zero).kind && decide (x = 2)) = run := hrun.symm
    rw [e]
    cases run with
    | true => rfl
    | false =>
      rcases hk with hk | ⟨hk1, hk2⟩
      · cases hk
      · rw [if_neg (by simp), if_neg (by rw [hk1, hk2]; simp)]
  obtain ⟨N, hN⟩ : ∃ N, (rput n x t).length = N + 1 := ⟨(rput n x t).length - 1, by omega⟩
  have hva : vall fs (rput n x t) = ([(⟨⟨n, x, 0, h, h + t.length⟩, (q : Int), run⟩ : VW)], 0, 0) := by
    unfold vall
    rw [hN, vallGo_next fs _ _ _ (by omega) (by rw [hlook]), hlook]
    simp only
    rw [vallGo_end fs _ N _ (by omega), if_neg (by simp)]
  refine ⟨by rw [hva], ?_⟩
  unfold arecs
  rw [hva]
  simp only [List.map_cons, List.map_nil]
  unfold arOf vbytes
  simp only
  rw [h3, ← h2, part_all]
end Go.Proofs.YtbdeclkccchnoaaGreat
namespace Go.Proofs.YtbdeclkccchnoaaGreat
open Go.RowKit
theorem b8_nat {n : Nat} (h : n < 256) : (b8 n).toNat = n := ((b8_eq n (b8 n) h).1 rfl).symm
theorem wordL_little : ∀ (n x : Nat), wordL (little n x) = x % 256 ^ n
  | 0, x => by simp [little, wordL, Nat.mod_one]
  | n + 1, x => by
    rw [little, wordL, wordL_little n, b8_nat (Nat.mod_lt _ (by decide)), Nat.pow_succ, Nat.mul_comm (256 ^ n) 256, Nat.mod_mul]
theorem kcanon_small {k : Int} (h1 : 9 ≤ k) (h2 : k < 12) (x : Nat) : kcanon k x < 256 ^ 4 := by
  unfold kcanon
  rw [if_neg (by omega), if_neg (by omega), if_pos (by omega)]
  exact Nat.mod_lt _ (by decide)
theorem kforms {k : Int} (hk : knumber k = true) (x : Nat) : (kwire k = 1 ∧ kput k x = little 8 (kcanon k x)) ∨ (kwire k = 5 ∧ kput k x = little 4 (kcanon k x) ∧ 9 ≤ k ∧ k < 12) ∨ (kwire k = 0 ∧ kput k x = vput (kcanon k x)) := by
  have hk' : 1 ≤ k ∧ k ≤ 14 := of_decide_eq_true hk
  unfold kwire kput
  rw [if_neg (show ¬ (k < 1 ∨ 17 < k) by omega), if_neg (show ¬ (15 ≤ k) by omega)]
  by_cases h1 : 12 ≤ k
  · rw [if_pos h1, if_pos h1]; exact .inl ⟨rfl, rfl⟩
  · rw [if_neg h1, if_neg h1]
    by_cases h2 : 9 ≤ k
    · rw [if_pos h2, if_pos h2]; exact .inr (.inl ⟨rfl, rfl, h2, by omega⟩)
    · rw [if_neg h2, if_neg h2]; exact .inr (.inr ⟨rfl, rfl⟩)
theorem kput_pos {k : Int} {x : Nat} : 0 < (kput k x).length := by
  unfold kput
  split
  · rw [little_len]; omega
  · split
    · rw [little_len]; omega
    · exact vput_pos _
theorem kread_kput {k : Int} {x : Nat} (hk : knumber k = true) (h : x < 2 ^ 64) : kread k (kput k x) = (kcanon k x, 0) := by
  have hc := kcanon_lt k h
  unfold kread
  rw [if_pos (kput_fits hk h)]
  congr 1
  have e : (if kwire k = 0 then (vread (kput k x)).1 else wordOf (kput k x)) = kcanon k x := by
    rcases kforms hk x with ⟨e1, e2⟩ | ⟨e1, e2, h1, h2⟩ | ⟨e1, e2⟩
    · rw [e1, e2, if_neg (by decide)]
      unfold wordOf
      rw [List.take_of_length_le (by rw [little_len]; omega), wordL_little]
      exact Nat.mod_eq_of_lt hc
    · rw [e1, e2, if_neg (by decide)]
      unfold wordOf
      rw [List.take_of_length_le (by rw [little_len]; omega), wordL_little]
      exact Nat.mod_eq_of_lt (kcanon_small h1 h2 x)
    · rw [e1, e2, if_pos rfl, vread_vput hc]
  rw [e]
  exact kcanon_idem k x
theorem runSize_kput {k : Int} {x : Nat} (hk : knumber k = true) (h : x < 2 ^ 64) (r : List UInt8) : runSize (kwire k) (kput k x ++ r) = ((kput k x).length, 0) := by
  have hc := kcanon_lt k h
  unfold runSize
  rcases kforms hk x with ⟨e1, e2⟩ | ⟨e1, e2, h1, h2⟩ | ⟨e1, e2⟩
  · rw [e1, e2, if_neg (by decide), if_pos rfl, if_neg (by rw [List.length_append, little_len]; omega), little_len]
  · rw [e1, e2, if_neg (by decide), if_neg (show ¬ (5 = 1) by decide), if_neg (by rw [List.length_append, little_len]; omega), little_len]
  · rw [e1, e2, if_pos rfl, vread_app _ (by rw [vread_vput hc]), vread_vput hc]
theorem runCount_kpack {k : Int} (hk : knumber k = true) : ∀ (ws : List Nat), (∀ x ∈ ws, x < 2 ^ 64) → (runCount (kwire k) (kpack k ws)).2 = 0 ∧ rpieces (kwire k) (kpack k ws) = ws.map (kput k)
  | [], _ => ⟨rfl, rfl⟩
  | x :: r, h => by
    obtain ⟨g1, g2⟩ := runCount_kpack hk r fun y hy => h y (by simp [hy])
    have hx := h x (by simp)
    have e : kpack k (x :: r) = kput k x ++ kpack k r := by unfold kpack; rw [List.flatMap_cons]
    have hp := kput_pos (k := k) (x := x)
    have hne : kput k x ++ kpack k r ≠ [] := by intro e; rw [List.append_eq_nil_iff] at e; rw [e.1] at hp; simp at hp
    have hs := runSize_kput hk hx (kpack k r)
    rw [e]
    refine ⟨?_, ?_⟩
    · rw [runCount_step _ _ hne _ hs, List.drop_left, if_neg (by omega)]
    · rw [rpieces_step _ _ hne _ hs, List.drop_left, List.take_left, g2, List.map_cons]
theorem runWords_kpack {k : Int} (hk : knumber k = true) (ws : List Nat) (h : ∀ x ∈ ws, x < 2 ^ 64) : runWords k (kpack k ws) = (ws.map (kcanon k), 0) := by
  obtain ⟨g1, g2⟩ := runCount_kpack hk ws h
  unfold runWords
  rw [if_pos g1]
  unfold kwords
  rw [g2, List.map_map]
  congr 1
  refine List.map_congr_left fun x hx => ?_
  show (kread k (kput k x)).1 = _
  rw [kread_kput hk (h x hx)]
end Go.Proofs.YtbdeclkccchnoaaGreat
namespace Go.Proofs.YtbdeclkccchnoaaGreat
open Go.RowKit
theorem flatMap_single {α β : Type} {g : α → List β} {h : α → β} : ∀ {l : List α}, (∀ x ∈ l, g x = [h x]) → l.flatMap g = l.map h
  | [], _ => rfl
  | x :: r, hx => by rw [List.flatMap_cons, List.map_cons, hx x (by simp), flatMap_single fun y hy => hx y (by simp [hy])]; rfl
theorem rfits2 (t : List UInt8) : rfits ((2 : Nat) : Int) t = true := by unfold rfits; simp
def recsV {α : Type} (E : Int → α → List UInt8) (f : Fld) (q : Nat) (x : Val α) : List AR :=
  if knumber f.kind = true then (if f.rep = true then [⟨q, true, kpack f.kind x.words, rput f.number 2 (kpack f.kind x.words)⟩] else [⟨q, false, kput f.kind (x.words.getD 0 0), rput f.number (kwire f.kind) (kput f.kind (x.words.getD 0 0))⟩])
  else x.texts.map (fun t => ⟨q, false, t, rput f.number 2 t⟩) ++ x.subs.map fun y => ⟨q, false, E f.of y, rput f.number 2 (E f.of y)⟩
theorem arecs_encV {α : Type} {E : Int → α → List UInt8} {fs : List Fld} {q : Nat} {f : Fld} {x : Val α} (hf : f = fs.getD q .zero) (hn : fieldAt fs f.number = q) (hk : kright f.kind = true) (hnum : 1 ≤ f.number ∧ f.number ≤ 536870911)
    (hw : ∀ w ∈ x.words, w < 2 ^ 64) (hwl : x.words.length ≤ 1099511627776) (htl : ∀ t ∈ x.texts, t.length < 2 ^ 64) (hsl : ∀ y ∈ x.subs, (E f.of y).length < 2 ^ 64) :
    (vall fs (encV E f x)).2.2 = 0 ∧ arecs fs (encV E f x) = recsV E f q x := by
  obtain ⟨n, hnn⟩ : ∃ n : Nat, f.number = n := ⟨f.number.toNat, by omega⟩
  have htag : ∀ w : Nat, (w = 0 ∨ w = 1 ∨ w = 2 ∨ w = 5) → tagOk n w = true := fun w h => by unfold tagOk; simp; omega
  have hone : ∀ (w : Nat) (t : List UInt8) (run : Bool), (w = 0 ∨ w = 1 ∨ w = 2 ∨ w = 5) → rfits (w : Int) t = true → t.length < 2 ^ 64 → run = (f.rep && knumber f.kind && decide (w = 2)) → (run = true ∨ kwire f.kind = w) →
      (vall fs (rput f.number w t)).2.2 = 0 ∧ arecs fs (rput f.number w t) = [(⟨(q : Int), run, t, rput f.number w t⟩ : AR)] := by
    intro w t run h1 h2 h3 h4 h5
    rw [hnn]
    by_cases hq : q < fs.length
    · exact arecs_rput hq (by rw [← hnn]; exact hn) (htag w h1) h2 h3 (by rw [← hf]; exact h4) (h5.imp id fun h => ⟨by rw [← hf]; exact hk, by rw [← hf]; exact h⟩)
    · rcases fieldAt_cases fs f.number with e | ⟨k, h, e, -⟩
      · omega
      · omega
  unfold encV recsV
  by_cases hkn : knumber f.kind = true
  · rw [if_pos hkn, if_pos hkn]
    have hl0 : ∀ w, w < 2 ^ 64 → (kput f.kind w).length ≤ 10 := fun w h => kput_le f.kind h
    by_cases hr : f.rep = true
    · rw [if_pos hr, if_pos hr]
      have hpl := kpack_le f.kind x.words hw
      exact hone 2 _ true (by omega) (rfits2 _) (by omega) (by rw [hr, hkn]; rfl) (.inl rfl)
    · rw [if_neg hr, if_neg hr]
      have hw0 : x.words.getD 0 0 < 2 ^ 64 := by
        cases hx : x.words with
        | nil => simp
        | cons a r => simp; exact hw a (by rw [hx]; simp)
      obtain ⟨wn, hwn⟩ : ∃ wn : Nat, kwire f.kind = wn := ⟨_, rfl⟩
      have hwc := kwire_015 hkn
      have h1 := kput_fits hkn hw0
      rw [hwn] at h1 ⊢
      have := hl0 _ hw0
      exact hone wn _ false (by omega) h1 (by omega) (by
        have : decide (wn = 2) = false := by simp; omega
        rw [this]; simp) (.inr hwn)
  · rw [if_neg hkn, if_neg hkn]
    have hk2 : kwire f.kind = 2 := by
      have hkf : knumber f.kind = false := by simpa using hkn
      unfold kright at hk
      unfold knumber at hkf
      simp at hk hkf
      unfold kwire
      rw [if_neg (by omega), if_pos (by omega)]
    have h2 : ∀ t : List UInt8, t.length < 2 ^ 64 → (vall fs (rput f.number 2 t)).2.2 = 0 ∧ arecs fs (rput f.number 2 t) = [(⟨(q : Int), false, t, rput f.number 2 t⟩ : AR)] := fun t ht =>
      hone 2 t false (by omega) (rfits2 t) ht (by rw [show knumber f.kind = false by simpa using hkn]; simp) (.inr hk2)
    have hT := arecs_flat (fs := fs) (ls := x.texts.map (rput f.number 2)) fun l hl => by
      obtain ⟨t, ht, rfl⟩ := List.mem_map.1 hl
      exact (h2 t (htl t ht)).1
    have hS := arecs_flat (fs := fs) (ls := x.subs.map fun y => rput f.number 2 (E f.of y)) fun l hl => by
      obtain ⟨y, hy, rfl⟩ := List.mem_map.1 hl
      exact (h2 _ (hsl y hy)).1
    have hB := arecs_app hT.1 hS.1
    rw [List.flatMap_def, List.flatMap_def]
    refine ⟨hB.1, hB.2.trans ?_⟩
    rw [hT.2, hS.2, List.flatMap_map, List.flatMap_map]
    rw [flatMap_single (fun t ht => (h2 t (htl t ht)).2), flatMap_single (fun y hy => (h2 _ (hsl y hy)).2)]
end Go.Proofs.YtbdeclkccchnoaaGreat
namespace Go.Proofs.YtbdeclkccchnoaaGreat
open Go.RowKit
theorem fits_cases {α : Type} {R : Int → α → Bool} {f : Fld} {x : Val α} (h : fitsB R f x = true) :
    0 < many x ∧ (f.rep = false → many x ≤ 1) ∧
    ((knumber f.kind = true ∧ x.texts = [] ∧ x.subs = [] ∧ ∀ w ∈ x.words, kcanon f.kind w = w) ∨ (f.kind = 17 ∧ x.words = [] ∧ x.texts = [] ∧ ∀ y ∈ x.subs, R f.of y = true) ∨
     (knumber f.kind = false ∧ f.kind ≠ 17 ∧ (f.kind = 15 ∨ f.kind = 16) ∧ x.words = [] ∧ x.subs = [] ∧ (f.kind = 15 → ∀ t ∈ x.texts, ufirst t = t.length))) := by
  unfold fitsB at h
  by_cases h0 : x.words.length + x.texts.length + x.subs.length = 0 ∨ 1 < x.words.length + x.texts.length + x.subs.length ∧ f.rep = false
  · rw [if_pos h0] at h; cases h
  rw [if_neg h0] at h
  have hm : many x = x.words.length + x.texts.length + x.subs.length := rfl
  refine ⟨by omega, fun hr => ?_, ?_⟩
  · rw [hm]
    by_cases h1 : 1 < x.words.length + x.texts.length + x.subs.length
    · exact absurd (.inr ⟨h1, hr⟩) h0
    · omega
  by_cases hk : knumber f.kind = true
  · rw [if_pos hk] at h
    simp only [Bool.and_eq_true, decide_eq_true_eq, List.all_eq_true, List.length_eq_zero_iff] at h
    exact .inl ⟨hk, h.1.1, h.1.2, h.2⟩
  · rw [if_neg hk] at h
    by_cases h17 : f.kind = 17
    · rw [if_pos h17] at h
      simp only [Bool.and_eq_true, decide_eq_true_eq, List.all_eq_true, List.length_eq_zero_iff] at h
      exact .inr (.inl ⟨h17, h.1.1, h.1.2, h.2⟩)
    · rw [if_neg h17] at h
      by_cases h15 : f.kind = 15
      · rw [if_pos h15] at h
        simp only [Bool.and_eq_true, decide_eq_true_eq, List.all_eq_true, List.length_eq_zero_iff] at h
        exact .inr (.inr ⟨by simpa using hk, h17, .inl h15, h.1.1, h.1.2, fun _ => h.2⟩)
      · rw [if_neg h15] at h
        simp only [Bool.and_eq_true, decide_eq_true_eq, List.length_eq_zero_iff] at h
        exact .inr (.inr ⟨by simpa using hk, h17, .inr h.1, h.2.1, h.2.2, fun e => absurd e h15⟩)
theorem flat_map_one {α β : Type} (g : α → List β) (h : α → β) (l : List α) (e : ∀ x, g x = [h x]) : l.flatMap g = l.map h := flatMap_single fun x _ => e x
theorem counts_one {α : Type} (f : Fld) {l : List α} (h : f.rep = false → l.length ≤ 1) : counts f l = l := by
  unfold counts
  by_cases hr : f.rep = true
  · rw [if_pos hr]
  · rw [if_neg hr]
    have := h (by simpa using hr)
    unfold lastOf
    rw [show l.length - 1 = 0 by omega, List.drop_zero]
theorem fieldA_enc {α β : Type} {R : Int → α → Bool} {E : Int → α → List UInt8} {sub : Int → List UInt8 → List β} {f : Fld} {q : Nat} {x : Val α} (h : fitsB R f x = true) (hw : ∀ w ∈ x.words, w < 2 ^ 64) :
    fieldA sub f (recsV E f q x) = ⟨f.number, x.words, x.texts, x.subs.flatMap fun y => sub f.of (E f.of y)⟩ := by
  obtain ⟨hpos, hone, hc⟩ := fits_cases h
  unfold many at hpos hone
  rcases hc with ⟨hk, h1, h2, h3⟩ | ⟨h17, h1, h2, -⟩ | ⟨hk, h17, -, h1, h2, -⟩
  · have h17 : f.kind ≠ 17 := by intro e; rw [e] at hk; exact absurd hk (by decide)
    unfold recsV fieldA
    rw [if_pos hk, if_neg h17, if_neg h17, h1, h2]
    by_cases hr : f.rep = true
    · rw [if_pos hr]
      rw [counts_one f (by intro e; simp)]
      have hm : x.words.map (kcanon f.kind) = x.words := by
        conv => rhs; rw [← List.map_id x.words]
        exact List.map_congr_left h3
      simp only [List.flatMap_cons, List.flatMap_nil, List.append_nil]
      unfold arW arB
      rw [if_pos rfl, if_pos (.inl rfl), runWords_kpack hk _ hw, hm]
    · have hr' : f.rep = false := by simpa using hr
      rw [if_neg hr]
      rw [counts_one f (by intro e; simp)]
      have hl := hone hr'
      rw [h1, h2] at hpos hl
      obtain ⟨w, hwx⟩ : ∃ w, x.words = [w] := List.length_eq_one_iff.1 (by simp at hpos hl; omega)
      have hw0 : w < 2 ^ 64 := hw w (by rw [hwx]; simp)
      have hc0 : kcanon f.kind w = w := h3 w (by rw [hwx]; simp)
      simp only [List.flatMap_cons, List.flatMap_nil, List.append_nil]
      unfold arW arB
      rw [if_neg (by simp), if_pos hk, if_pos (.inr hk), hwx]
      simp only [List.getD_cons_zero]
      rw [kread_kput hk hw0, hc0]
  · have hk : ¬ knumber f.kind = true := by rw [h17]; decide
    unfold recsV fieldA
    rw [if_neg hk, if_pos h17, if_pos h17, h1, h2]
    simp only [List.map_nil, List.nil_append]
    have hW : (counts f (x.subs.map fun y => (⟨(q : Int), false, E f.of y, rput f.number 2 (E f.of y)⟩ : AR))).flatMap (arW f) = [] := by
      refine flat_nil _ _ fun z hz => ?_
      have hz' := counts_sub f _ hz
      obtain ⟨y, -, rfl⟩ := List.mem_map.1 hz'
      unfold arW
      rw [if_neg (by simp), if_neg hk]
    rw [hW]
    congr 1
    by_cases hr : f.rep = true
    · rw [if_pos hr, List.flatMap_map]
    · have hr' : f.rep = false := by simpa using hr
      have hl := hone hr'
      rw [h1, h2] at hpos hl
      obtain ⟨y, hy⟩ : ∃ y, x.subs = [y] := List.length_eq_one_iff.1 (by simp at hpos hl; omega)
      rw [if_neg hr, hy]
      simp
  · unfold recsV fieldA
    rw [if_neg (by rw [hk]; decide), if_neg h17, if_neg h17, h1, h2]
    simp only [List.map_nil, List.append_nil, List.flatMap_nil]
    rw [counts_one f (by
      intro e
      have := hone e
      rw [h1, h2] at this
      simp at this ⊢; omega)]
    have hW : (x.texts.map fun t => (⟨(q : Int), false, t, rput f.number 2 t⟩ : AR)).flatMap (arW f) = [] := by
      refine flat_nil _ _ fun z hz => ?_
      obtain ⟨y, -, rfl⟩ := List.mem_map.1 hz
      unfold arW
      rw [if_neg (by simp), if_neg (by rw [hk]; decide)]
    have hB : (x.texts.map fun t => (⟨(q : Int), false, t, rput f.number 2 t⟩ : AR)).flatMap (arB f) = x.texts := by
      rw [List.flatMap_map]
      rw [flat_map_one _ id _ (fun t => by unfold arB; rw [if_neg (by rw [hk]; simp)]; rfl), List.map_id]
    rw [hW, hB]
end Go.Proofs.YtbdeclkccchnoaaGreat
namespace Go.Proofs.YtbdeclkccchnoaaGreat
open Go.RowKit
def qOf {α : Type} (fs : List Fld) (v : Val α) : Int := fieldAt fs v.num
structure ValsOk {α : Type} (F : Fld → Val α → Bool) (fs : List Fld) (vals : List (Val α)) : Prop where
  at' : ∀ v ∈ vals, 0 ≤ qOf fs v ∧ qOf fs v < fs.length ∧ (fs.getD (qOf fs v).toNat .zero).number = v.num ∧ F (fs.getD (qOf fs v).toNat .zero) v = true
  rise : vals.Pairwise fun a b => a.num < b.num
theorem valsOk_of {α : Type} {F : Fld → Val α → Bool} {fs : List Fld} : ∀ {vals : List (Val α)} {last : Int}, valsB F fs vals last = true → ValsOk F fs vals ∧ ∀ v ∈ vals, last < v.num
  | [], _, _ => ⟨⟨fun _ h => by simp at h, List.Pairwise.nil⟩, fun _ h => by simp at h⟩
  | v :: r, last, h => by
    unfold valsB at h
    by_cases h0 : fieldAt fs v.num < 0 ∨ v.num ≤ last ∨ F (fs.getD (fieldAt fs v.num).toNat .zero) v = false
    · rw [if_pos h0] at h; cases h
    rw [if_neg h0] at h
    obtain ⟨⟨g1, g2⟩, g3⟩ := valsOk_of h
    have h1 : 0 ≤ fieldAt fs v.num := by
      by_cases h : fieldAt fs v.num < 0
      · exact absurd (.inl h) h0
      · omega
    have h2 : last < v.num := by
      by_cases h : v.num ≤ last
      · exact absurd (.inr (.inl h)) h0
      · omega
    have h3 : F (fs.getD (fieldAt fs v.num).toNat .zero) v = true := by
      cases e : F (fs.getD (fieldAt fs v.num).toNat .zero) v with
      | true => rfl
      | false => exact absurd (.inr (.inr e)) h0
    refine ⟨⟨fun w hw => ?_, List.pairwise_cons.2 ⟨g3, g2⟩⟩, fun w hw => ?_⟩
    · rcases List.mem_cons.1 hw with rfl | hw
      · rcases fieldAt_cases fs w.num with e | ⟨k, hk, e, hn⟩
        · omega
        · refine ⟨h1, ?_, ?_, h3⟩
          · show fieldAt fs w.num < _; omega
          · show (fs.getD (fieldAt fs w.num).toNat .zero).number = _
            rw [e, Int.toNat_natCast]; exact hn
      · exact g1 w hw
    · rcases List.mem_cons.1 hw with rfl | hw
      · exact h2
      · have := g3 w hw; omega
theorem filter_flat {α : Type} (Q : α → Int) (R : α → List AR) : ∀ (vals : List α), (∀ v ∈ vals, ∀ r ∈ R v, r.k = Q v) → (vals.map Q).Nodup → ∀ v ∈ vals, (vals.flatMap R).filter (fun r => decide (r.k = Q v)) = R v
  | [], _, _, v, hv => by simp at hv
  | a :: t, hk, hn, v, hv => by
    rw [List.map_cons, List.nodup_cons] at hn
    rw [List.flatMap_cons, List.filter_append]
    have hrest : ∀ w : α, (∀ u ∈ t, Q u ≠ Q w) → (t.flatMap R).filter (fun r => decide (r.k = Q w)) = [] := by
      intro w hw
      rw [List.filter_eq_nil_iff]
      intro r hr
      obtain ⟨u, hu, hru⟩ := List.mem_flatMap.1 hr
      have := hk u (by simp [hu]) r hru
      simp only [decide_eq_true_eq]
      rw [this]; exact hw u hu
    rcases List.mem_cons.1 hv with rfl | hv
    · rw [hrest v (fun u hu e => hn.1 (List.mem_map.2 ⟨u, hu, e⟩)), List.append_nil]
      rw [List.filter_eq_self]
      intro r hr
      simpa using hk v (by simp) r hr
    · have h1 : (R a).filter (fun r => decide (r.k = Q v)) = [] := by
        rw [List.filter_eq_nil_iff]
        intro r hr
        simp only [decide_eq_true_eq]
        rw [hk a (by simp) r hr]
        intro e
        exact hn.1 (List.mem_map.2 ⟨v, hv, e.symm⟩)
      rw [h1, List.nil_append]
      exact filter_flat Q R t (fun u hu => hk u (by simp [hu])) hn.2 v hv
theorem filter_none {α : Type} (Q : α → Int) (R : α → List AR) (vals : List α) (hk : ∀ v ∈ vals, ∀ r ∈ R v, r.k = Q v) (i : Int) (hi : ∀ v ∈ vals, Q v ≠ i) : (vals.flatMap R).filter (fun r => decide (r.k = i)) = [] := by
  rw [List.filter_eq_nil_iff]
  intro r hr
  obtain ⟨u, hu, hru⟩ := List.mem_flatMap.1 hr
  simp only [decide_eq_true_eq]
  rw [hk u hu r hru]; exact hi u hu
theorem recsV_k {α : Type} {E : Int → α → List UInt8} {f : Fld} {q : Nat} {x : Val α} : ∀ r ∈ recsV E f q x, r.k = (q : Int) := by
  intro r hr
  unfold recsV at hr
  split at hr
  · split at hr <;> (simp at hr; rw [hr])
  · rcases List.mem_append.1 hr with h | h
    · obtain ⟨t, -, rfl⟩ := List.mem_map.1 h; rfl
    · obtain ⟨t, -, rfl⟩ := List.mem_map.1 h; rfl
theorem places {α : Type} {F : Fld → Val α → Bool} {fs : List Fld} {vals : List (Val α)} (h : ValsOk F fs vals) : (sortedF fs).filter (fun i => decide (∃ v ∈ vals, qOf fs v = i)) = vals.map (qOf fs) := by
  have hp : (vals.map (qOf fs)).Pairwise (Ahead fs) := by
    rw [List.pairwise_map]
    refine List.Pairwise.imp_of_mem (fun {a b} ha hb hab => ?_) h.rise
    refine .inl ?_
    unfold numAt
    rw [(h.at' a ha).2.2.1, (h.at' b hb).2.2.1]; exact hab
  have hs := (sortF_ok fs fs.length).2
  have hf : ((sortedF fs).filter (fun i => decide (∃ v ∈ vals, qOf fs v = i))).Pairwise (Ahead fs) := hs.filter _
  have hnd : ∀ {l : List Int}, l.Pairwise (Ahead fs) → l.Nodup := fun {l} hl => List.Pairwise.imp (fun {a b} hab => by rintro rfl; exact Ahead.asymm _ _ hab hab) hl
  refine srt_unique Ahead.asymm hf hp ?_
  refine (List.perm_ext_iff_of_nodup (hnd hf) (hnd hp)).2 fun i => ?_
  rw [List.mem_filter, List.mem_map]
  constructor
  · rintro ⟨-, h2⟩
    simpa using h2
  · rintro ⟨v, hv, rfl⟩
    refine ⟨?_, by simpa using ⟨v, hv, rfl⟩⟩
    have hb := h.at' v hv
    refine (sortF_ok fs fs.length).1.mem_iff.2 (upTo_mem.2 ⟨hb.1, hb.2.1⟩)
def valTo {α β : Type} (G : Int → α → List β) (fs : List Fld) (v : Val α) : Val β := ⟨v.num, v.words, v.texts, v.subs.flatMap (G (fs.getD (qOf fs v).toNat .zero).of)⟩
def recsOf {α : Type} (E : Int → α → List UInt8) (fs : List Fld) (v : Val α) : List AR := recsV E (fs.getD (qOf fs v).toNat .zero) (qOf fs v).toNat v
theorem flat_len1 {α β : Type} (g : α → List β) : ∀ (l : List α), (∀ x ∈ l, (g x).length = 1) → (l.flatMap g).length = l.length
  | [], _ => rfl
  | x :: r, h => by
    rw [List.flatMap_cons, List.length_append, h x (by simp), flat_len1 g r fun y hy => h y (by simp [hy]), List.length_cons]; omega
theorem msgA_enc {α β : Type} {R : Int → α → Bool} {E : Int → α → List UInt8} {sub : Int → List UInt8 → List β} {fs : List Fld} {vals : List (Val α)} {un : List AR} (h : ValsOk (fitsB R) fs vals) (hw : ∀ v ∈ vals, ∀ w ∈ v.words, w < 2 ^ 64) (hun : ∀ r ∈ un, r.k < 0)
    (hsub : ∀ v ∈ vals, ∀ y ∈ v.subs, (sub (fs.getD (qOf fs v).toNat .zero).of (E (fs.getD (qOf fs v).toNat .zero).of y)).length = 1) :
    msgA sub fs (vals.flatMap (recsOf E fs) ++ un) = ⟨vals.map (valTo (fun o y => sub o (E o y)) fs), un.map AR.whole⟩ := by
  have hk : ∀ v ∈ vals, ∀ r ∈ recsOf E fs v, r.k = qOf fs v := fun v hv r hr => by
    have := recsV_k r hr
    have h1 := (h.at' v hv).1
    rw [this]; omega
  have hnd : (vals.map (qOf fs)).Nodup := by
    rw [← places h]
    refine List.Pairwise.filter _ ?_
    refine List.Pairwise.imp (fun {a b} hab => ?_) (sortF_ok fs fs.length).2
    rintro rfl
    exact Ahead.asymm _ _ hab hab
  have hfl : ∀ i : Int, 0 ≤ i → (vals.flatMap (recsOf E fs) ++ un).filter (fun r => decide (r.k = i)) = (vals.flatMap (recsOf E fs)).filter (fun r => decide (r.k = i)) := by
    intro i hi
    rw [List.filter_append]
    have : un.filter (fun r => decide (r.k = i)) = [] := by
      rw [List.filter_eq_nil_iff]
      intro r hr
      have := hun r hr
      simp only [decide_eq_true_eq]; omega
    rw [this, List.append_nil]
  have hval : ∀ v ∈ vals, fieldA sub (fs.getD (qOf fs v).toNat .zero) ((vals.flatMap (recsOf E fs) ++ un).filter (fun r => decide (r.k = qOf fs v))) = valTo (fun o y => sub o (E o y)) fs v := by
    intro v hv
    obtain ⟨h1, h2, h3, h4⟩ := h.at' v hv
    rw [hfl _ h1, filter_flat (qOf fs) (recsOf E fs) vals hk hnd v hv]
    unfold recsOf valTo
    rw [fieldA_enc h4 (hw v hv), h3]
  have hmany : ∀ v ∈ vals, 0 < many (valTo (fun o y => sub o (E o y)) fs v) := by
    intro v hv
    have h4 := (fits_cases (h.at' v hv).2.2.2).1
    unfold many at h4 ⊢
    unfold valTo
    simp only
    rw [flat_len1 _ _ (hsub v hv)]
    exact h4
  unfold msgA
  congr 1
  · have hkey : ((sortedF fs).map fun i => fieldA sub (fs.getD i.toNat .zero) ((vals.flatMap (recsOf E fs) ++ un).filter fun x => decide (x.k = i))).filter (fun v => decide (0 < many v)) =
        ((sortedF fs).filter (fun i => decide (∃ v ∈ vals, qOf fs v = i))).map fun i => fieldA sub (fs.getD i.toNat .zero) ((vals.flatMap (recsOf E fs) ++ un).filter fun x => decide (x.k = i)) := by
      rw [List.filter_map]
      congr 1
      refine List.filter_congr fun i hi => ?_
      have hb := sortedF_mem hi
      simp only [Function.comp]
      by_cases he : ∃ v ∈ vals, qOf fs v = i
      · obtain ⟨v, hv, rfl⟩ := he
        refine (decide_eq_true ?_).trans (decide_eq_true ⟨v, hv, rfl⟩).symm
        rw [hval v hv]; exact hmany v hv
      · refine (decide_eq_false ?_).trans (decide_eq_false he).symm
        rw [hfl i hb.1, filter_none (qOf fs) (recsOf E fs) vals hk i (fun v hv e => he ⟨v, hv, e⟩)]
        have : many (fieldA sub (fs.getD i.toNat .zero) []) = 0 := by
          unfold many fieldA counts lastOf
          simp
        omega
    rw [hkey, places h, List.map_map]
    exact List.map_congr_left fun v hv => hval v hv
  · rw [List.filter_append]
    have h1 : (vals.flatMap (recsOf E fs)).filter (fun x => decide (x.k < 0)) = [] := by
      rw [List.filter_eq_nil_iff]
      intro r hr
      obtain ⟨v, hv, hrv⟩ := List.mem_flatMap.1 hr
      have := hk v hv r hrv
      have := (h.at' v hv).1
      simp only [decide_eq_true_eq]; omega
    have h2 : un.filter (fun x => decide (x.k < 0)) = un := by
      rw [List.filter_eq_self]
      intro r hr
      simpa using hun r hr
    rw [h1, h2, List.nil_append]
end Go.Proofs.YtbdeclkccchnoaaGreat
namespace Go.Proofs.YtbdeclkccchnoaaGreat
open Go.RowKit
theorem arecs_strange {fs : List Fld} {t : List UInt8} (h : strangeB fs t = true) : (vall fs t).2.2 = 0 ∧ ∃ b, arecs fs t = [(⟨-1, false, b, t⟩ : AR)] := by
  unfold strangeB at h
  simp only [Bool.and_eq_true, decide_eq_true_eq] at h
  obtain ⟨⟨h1, h2⟩, h3⟩ := h
  obtain ⟨r, hr⟩ : ∃ r, rnext t 0 = (r, 0) := ⟨(rnext t 0).1, Prod.ext rfl h1⟩
  rw [hr] at h2 h3
  simp only at h2 h3
  have hpos : 0 < t.length := by
    rcases rnext_cases t 0 with ⟨hi, er⟩ | ⟨hi, -⟩ | ⟨hi, -⟩
    · rw [er] at hr; simp at hr
    · exact hi
    · exact hi
  have hst : r.start = 0 := by
    rcases rnext_cases t 0 with ⟨hi, er⟩ | ⟨hi, c, et, hc, er⟩ | ⟨hi, k, x, n, et, g1, g2, g3, g4, g5, g6, hcs⟩
    · rw [er] at hr; simp at hr
    · rw [er] at hr; simp at hr; omega
    · rcases hcs with ⟨a, m, c, es, hc, -, -, er⟩ | ⟨a, m, es, -, -, -, -, er⟩ | ⟨a, m, es, e1, e2, e3, er⟩
      · rw [er] at hr; simp at hr; omega
      · rw [er] at hr; simp at hr
      · rw [er] at hr; injection hr with hr _; subst hr; rfl
  have hlook : vlook fs t 0 = (r, -1, false, 0) := by
    unfold vlook
    rw [hr]
    simp only
    rw [if_neg (by simp), if_pos h3]
  obtain ⟨N, hN⟩ : ∃ N, t.length = N + 1 := ⟨t.length - 1, by omega⟩
  have hva : vall fs t = ([(⟨r, -1, false⟩ : VW)], 0, 0) := by
    unfold vall
    rw [hN, vallGo_next fs _ _ _ (by omega) (by rw [hlook]), hlook]
    simp only
    rw [vallGo_end fs _ N _ (by omega), if_neg (by simp)]
  refine ⟨by rw [hva], vbytes t ⟨r, -1, false⟩, ?_⟩
  unfold arecs
  rw [hva]
  simp only [List.map_cons, List.map_nil]
  unfold arOf
  simp only
  rw [hst, h2, part_all]
theorem msg_enc {β : Type} {s : List Mes} {d m : Nat} {x : M (d + 1)} {sub : Int → List UInt8 → List β} (hs : sright s = true) (hm : m < s.length) (hx : rightB s (d + 1) (m : Int) x = true)
    (hw : ∀ v ∈ M.vals x, (∀ w ∈ v.words, w < 2 ^ 64) ∧ v.words.length ≤ 1099511627776 ∧ (∀ t ∈ v.texts, t.length < 2 ^ 64) ∧ ∀ y ∈ v.subs, ∀ o : Int, (encM s d o y).length < 2 ^ 64) (hsub : ∀ v ∈ M.vals x, ∀ y ∈ v.subs, ∀ o, (sub o (encM s d o y)).length = 1) :
    (vall (s.getD m .zero).fields (encM s (d + 1) (m : Int) x)).2.2 = 0 ∧
      msgOf sub (s.getD m .zero).fields (encM s (d + 1) (m : Int) x) = ⟨(M.vals x).map (valTo (fun o y => sub o (encM s d o y)) (s.getD m .zero).fields), M.unk x⟩ := by
  unfold rightB at hx
  rw [if_neg (by omega), Int.toNat_natCast, Bool.and_eq_true, List.all_eq_true] at hx
  obtain ⟨hv, hu⟩ := hx
  obtain ⟨fs, HFS⟩ : ∃ fs, fs = (s.getD m .zero).fields := ⟨_, rfl⟩
  have hN := schema_Nums hs m hm
  have hright := fun f hf => sright_field hs m hm f hf
  rw [← HFS] at hv hu hN hright ⊢
  have hok := (valsOk_of hv).1
  have henc : encM s (d + 1) (m : Int) x = ((M.vals x).map fun v => encV (encM s d) (fs.getD (qOf fs v).toNat .zero) v).flatten ++ (M.unk x).flatten := by
    show (M.vals x).flatMap _ ++ (M.unk x).flatMap id = _
    rw [Int.toNat_natCast, ← HFS, List.flatMap_def, List.flatMap_id]
    rfl
  have hone : ∀ v ∈ M.vals x, (vall fs (encV (encM s d) (fs.getD (qOf fs v).toNat .zero) v)).2.2 = 0 ∧ arecs fs (encV (encM s d) (fs.getD (qOf fs v).toNat .zero) v) = recsOf (encM s d) fs v := by
    intro v hvm
    obtain ⟨h1, h2, h3, h4⟩ := hok.at' v hvm
    obtain ⟨g1, g2, g3, g4⟩ := hw v hvm
    have hq : (qOf fs v).toNat < fs.length := by omega
    have hkr := (hright _ (getD_mem fs .zero hq)).1
    have hat := hN.at hq
    have hnum : 1 ≤ (fs.getD (qOf fs v).toNat .zero).number ∧ (fs.getD (qOf fs v).toNat .zero).number ≤ 536870911 := by
      have h5 := (schema_nums hs m hm (qOf fs v).toNat (by rw [← HFS]; exact hq)).2
      rw [← HFS] at h5
      unfold numOk at h5
      have := of_decide_eq_true h5
      omega
    exact arecs_encV rfl hat hkr hnum g1 g2 g3 (fun y hy => g4 y hy _)
  have hA := arecs_flat (fs := fs) (ls := (M.vals x).map fun v => encV (encM s d) (fs.getD (qOf fs v).toNat .zero) v) fun l hl => by
    obtain ⟨v, hvm, rfl⟩ := List.mem_map.1 hl
    exact (hone v hvm).1
  have hU := arecs_flat (fs := fs) (ls := M.unk x) fun t ht => (arecs_strange (hu t ht)).1
  have hB := arecs_app hA.1 hU.1
  rw [henc]
  refine ⟨hB.1, ?_⟩
  rw [← msgA_of, hB.2, hA.2, List.flatMap_map]
  have e1 : (M.vals x).flatMap (fun v => arecs fs (encV (encM s d) (fs.getD (qOf fs v).toNat .zero) v)) = (M.vals x).flatMap (recsOf (encM s d) fs) := by
    rw [List.flatMap_def, List.flatMap_def]
    congr 1
    exact List.map_congr_left fun v hvm => (hone v hvm).2
  rw [e1, hU.2, msgA_enc hok (fun v hvm => (hw v hvm).1) (fun r hr => by
    obtain ⟨t, ht, hrt⟩ := List.mem_flatMap.1 hr
    obtain ⟨b, e⟩ := (arecs_strange (hu t ht)).2
    rw [e] at hrt
    simp at hrt
    rw [hrt]; show (-1 : Int) < 0; omega) (fun v hvm y hy => hsub v hvm y hy _)]
  congr 1
  rw [List.map_flatMap]
  have : ∀ l : List (List UInt8), (∀ t ∈ l, strangeB fs t = true) → l.flatMap (fun t => (arecs fs t).map AR.whole) = l := by
    intro l
    induction l with
    | nil => intro _; rfl
    | cons t r ih =>
      intro h
      obtain ⟨b, e⟩ := (arecs_strange (h t (by simp))).2
      rw [List.flatMap_cons, e, ih fun y hy => h y (by simp [hy])]
      rfl
  exact this _ hu
end Go.Proofs.YtbdeclkccchnoaaGreat
namespace Go.Proofs.YtbdeclkccchnoaaGreat
open Go.RowKit
def all2 {α β : Type} (S : α → β → Bool) : List α → List β → Bool
  | [], [] => true
  | x :: r, y :: t => S x y && all2 S r t
  | _, _ => false
def sameV {α β : Type} (S : α → β → Bool) (x : Val α) (y : Val β) : Bool := decide (x.num = y.num ∧ x.words = y.words ∧ x.texts = y.texts) && all2 S x.subs y.subs
def sameB : (a b : Nat) → M a → M b → Bool
  | 0, _, x, _ => Empty.elim x
  | _ + 1, 0, _, y => Empty.elim y
  | a + 1, b + 1, x, y => decide (M.unk x = M.unk y) && all2 (sameV (sameB a b)) (M.vals x) (M.vals y)
def depthV {α : Type} (D : α → Nat) (v : Val α) : Nat := (v.subs.map fun y => D y + 1).foldl max 0
def depthM : (d : Nat) → M d → Nat
  | 0, _ => 0
  | d + 1, x => ((M.vals x).map (depthV (depthM d))).foldl max 0
theorem foldl_max : ∀ (l : List Nat) (a : Nat), a ≤ l.foldl max a ∧ ∀ x ∈ l, x ≤ l.foldl max a
  | [], a => ⟨Nat.le_refl _, by simp⟩
  | y :: r, a => by
    obtain ⟨h1, h2⟩ := foldl_max r (max a y)
    rw [List.foldl_cons]
    refine ⟨by omega, fun x hx => ?_⟩
    rcases List.mem_cons.1 hx with rfl | hx
    · omega
    · exact h2 x hx
theorem foldl_from : ∀ (l : List Nat) (a : Nat), l.foldl max a = max a (l.foldl max 0)
  | [], a => by simp
  | x :: r, a => by
    rw [List.foldl_cons, List.foldl_cons, foldl_from r (max a x), foldl_from r (max 0 x)]
    omega
theorem foldl_take {α : Type} (f : α → Nat) (l : List α) (k : Nat) (x : α) (a : Nat) (h : l[k]? = some x) : ((l.take (k + 1)).map f).foldl max a = max (((l.take k).map f).foldl max a) (f x) := by
  rw [List.take_add_one, h]
  simp
theorem foldl_le {b : Nat} : ∀ (l : List Nat) (a : Nat), a ≤ b → (∀ x ∈ l, x ≤ b) → l.foldl max a ≤ b
  | [], _, h, _ => h
  | x :: r, a, h, hl => by
    rw [List.foldl_cons]
    exact foldl_le r _ (by have := hl x (by simp); omega) fun y hy => hl y (by simp [hy])
theorem depth_le : ∀ (d : Nat) (x : M d), depthM d x ≤ mwt d x
  | 0, _ => Nat.zero_le _
  | d + 1, x => by
    have e : mwt (d + 1) x = 1 + twt (M.unk x) + ((M.vals x).map (vwt (mwt d))).sum := rfl
    show ((M.vals x).map (depthV (depthM d))).foldl max 0 ≤ _
    refine foldl_le _ _ (Nat.zero_le _) fun n hn => ?_
    obtain ⟨v, hv, rfl⟩ := List.mem_map.1 hn
    have h1 := mem_sum_le (vwt (mwt d)) (M.vals x) v hv
    refine foldl_le _ _ (Nat.zero_le _) fun n hn => ?_
    obtain ⟨y, hy, rfl⟩ := List.mem_map.1 hn
    have h2 := depth_le d y
    have h3 := mem_sum_le (mwt d) v.subs y hy
    show depthM d y + 1 ≤ _
    have h4 : vwt (mwt d) v = 1 + v.words.length + twt v.texts + (v.subs.map (mwt d)).sum := rfl
    omega
theorem all2_drop {α β : Type} (S : α → β → Bool) (l : List α) (m : List β) (k : Nat) (x : α) (y : β) (h : l[k]? = some x) (h2 : m[k]? = some y) : all2 S (l.drop k) (m.drop k) = (S x y && all2 S (l.drop (k + 1)) (m.drop (k + 1))) := by
  obtain ⟨hk, rfl⟩ := List.getElem?_eq_some_iff.1 h
  obtain ⟨hk2, rfl⟩ := List.getElem?_eq_some_iff.1 h2
  rw [List.drop_eq_getElem_cons hk, List.drop_eq_getElem_cons hk2, all2]
theorem all2_len {α β : Type} (S : α → β → Bool) : ∀ (l : List α) (m : List β), l.length ≠ m.length → all2 S l m = false
  | [], [], h => absurd rfl h
  | [], _ :: _, _ => rfl
  | _ :: _, [], _ => rfl
  | x :: r, y :: t, h => by
    rw [all2, all2_len S r t (by simpa using h), Bool.and_false]
theorem drop_eq {α : Type} [DecidableEq α] (l m : List α) (k : Nat) (x y : α) (h : l[k]? = some x) (h2 : m[k]? = some y) : decide (l.drop k = m.drop k) = (decide (x = y) && decide (l.drop (k + 1) = m.drop (k + 1))) := by
  obtain ⟨hk, rfl⟩ := List.getElem?_eq_some_iff.1 h
  obtain ⟨hk2, rfl⟩ := List.getElem?_eq_some_iff.1 h2
  rw [Bool.eq_iff_iff, Bool.and_eq_true, decide_eq_true_iff, decide_eq_true_iff, decide_eq_true_iff, List.drop_eq_getElem_cons hk, List.drop_eq_getElem_cons hk2, List.cons.injEq]
theorem bytes_beq (x y : List UInt8) : ((⟨x.toArray⟩ : ByteArray).toList == (⟨y.toArray⟩ : ByteArray).toList) = decide (x = y) := by
  rw [Bool.eq_iff_iff]
  simp [ByteArray.toList_eq]
theorem formM : ∀ {d : Nat} {w : World} {v : Value} {x : M d}, MsgAt d w v x → ∃ a1 n1 c1 a2 n2 c2, v = .agg #[.slice a1 n1 c1, .slice a2 n2 c2]
  | 0, _, _, _, h => h.elim
  | d + 1, _, _, _, h => by
    obtain ⟨vv, uv, rfl, hV, hU⟩ := h
    obtain ⟨-, va, vc, rfl, -, -⟩ := hV.open
    obtain ⟨-, ua, uc, rfl, -, -⟩ := hU.open
    exact ⟨_, _, _, _, _, _, rfl⟩
theorem formV {d : Nat} {w : World} {m : Int} {v1 v2 v3 : Value} {x : Val (M d)} (h : ValAt (MsgAt d) w (.agg #[.int .i64 m, v1, v2, v3]) x) : ∃ a1 n1 c1 a2 n2 c2 a3 n3 c3, v1 = .slice a1 n1 c1 ∧ v2 = .slice a2 n2 c2 ∧ v3 = .slice a3 n3 c3 := by
  obtain ⟨wv, tv, sv, e, -, hW, hT, hS⟩ := h
  cases e
  obtain ⟨-, wa, wc, rfl, -, -⟩ := hW.open
  obtain ⟨-, ta, tc, rfl, -, -⟩ := hT.open
  obtain ⟨-, sa, sc, rfl, -, -⟩ := hS.open
  exact ⟨_, _, _, _, _, _, _, _, _, rfl, rfl, rfl⟩
end Go.Proofs.YtbdeclkccchnoaaGreat
namespace Go.Proofs.YtbdeclkccchnoaaGreat
open Go.RowKit
theorem depth_sub {d : Nat} {x : M (d + 1)} {v : Val (M d)} {y : M d} (hv : v ∈ M.vals x) (hy : y ∈ v.subs) : depthM d y + 1 ≤ depthM (d + 1) x := by
  have h1 := (foldl_max (v.subs.map fun y => depthM d y + 1) 0).2 _ (List.mem_map.2 ⟨y, hy, rfl⟩)
  have h2 := (foldl_max ((M.vals x).map (depthV (depthM d))) 0).2 _ (List.mem_map.2 ⟨v, hv, rfl⟩)
  have h3 : depthM (d + 1) x = ((M.vals x).map (depthV (depthM d))).foldl max 0 := rfl
  have h4 : depthM d y + 1 ≤ depthV (depthM d) v := h1
  omega
theorem all2_map {α β : Type} {S : β → α → Bool} (g : α → β) : ∀ (l : List α), (∀ x ∈ l, S (g x) x = true) → all2 S (l.map g) l = true
  | [], _ => rfl
  | x :: r, h => by
    rw [List.map_cons, all2, h x (by simp), all2_map g r fun y hy => h y (by simp [hy])]; rfl
theorem all2_flat {α β : Type} {S : β → α → Bool} (g : α → List β) : ∀ (l : List α), (∀ x ∈ l, ∃ z, g x = [z] ∧ S z x = true) → all2 S (l.flatMap g) l = true
  | [], _ => rfl
  | x :: r, h => by
    obtain ⟨z, e, hz⟩ := h x (by simp)
    rw [List.flatMap_cons, e]
    show (S z x && all2 S (r.flatMap g) r) = true
    rw [hz, all2_flat g r fun y hy => h y (by simp [hy])]; rfl
theorem sane {w : World} {s : List Mes} (hs : sright s = true) {d : Nat} {v : Value} {x : M (d + 1)} (h : MsgAt (d + 1) w v x) (hw : mwt (d + 1) x ≤ 1099511627776) :
    ∀ u ∈ M.vals x, ((∀ w ∈ u.words, w < 2 ^ 64) ∧ u.words.length ≤ 1099511627776 ∧ (∀ t ∈ u.texts, t.length < 2 ^ 64) ∧ ∀ y ∈ u.subs, ∀ o : Int, (encM s d o y).length < 2 ^ 64) ∧ ∀ y ∈ u.subs, mwt d y ≤ 1099511627776 ∧ ∃ v', MsgAt d w v' y := by
  obtain ⟨vv, uv, rfl, hV, hU⟩ := h
  obtain ⟨-, va, vc, -, -, hva⟩ := hV.open
  intro u hu
  obtain ⟨k, hk⟩ := List.mem_iff_getElem?.1 hu
  obtain ⟨b, o, v1, v2, v3, -, -, -, -, -, hM⟩ := hva k u hk
  obtain ⟨wv, tv, sv, -, -, hW, hT, hSu⟩ := hM
  obtain ⟨-, sa, sc, -, -, hsa⟩ := hSu.open
  have e : mwt (d + 1) x = 1 + twt (M.unk x) + ((M.vals x).map (vwt (mwt d))).sum := rfl
  have h1 := mem_sum_le (vwt (mwt d)) (M.vals x) u hu
  have hvw : vwt (mwt d) u ≤ 1099511627776 := by omega
  unfold vwt at hvw
  have hsub : ∀ y ∈ u.subs, mwt d y ≤ 1099511627776 ∧ ∃ v', MsgAt d w v' y := by
    intro y hy
    have h2 := mem_sum_le (mwt d) u.subs y hy
    obtain ⟨j, hj⟩ := List.mem_iff_getElem?.1 hy
    obtain ⟨b', o', u1, u2, -, -, -, hm⟩ := hsa j y hj
    exact ⟨by omega, _, hm⟩
  refine ⟨⟨hW.2, by omega, fun t ht => ?_, fun y hy o => ?_⟩, hsub⟩
  · have := hT.2 t ht; omega
  · obtain ⟨g1, v', g2⟩ := hsub y hy
    have := enc_len hs d o v' y g2 (by omega)
    omega
theorem tof_enc {w : World} {s : List Mes} (hs : sright s = true) : ∀ (d k m : Nat) (v : Value) (x : M (d + 1)), MsgAt (d + 1) w v x → mwt (d + 1) x ≤ 1099511627776 → m < s.length → rightB s (d + 1) (m : Int) x = true → depthM (d + 1) x ≤ k →
    sameB (k + 1) (d + 1) (tof s k m (encM s (d + 1) (m : Int) x)) x = true := by
  intro d
  induction d with
  | zero =>
    intro k m v x h hw hm hr hk
    have hsn := sane hs h hw
    obtain ⟨-, he⟩ := msg_enc (sub := tsub s k) hs hm hr (fun u hu => (hsn u hu).1) (fun u _ y _ => Empty.elim y)
    rw [tof_msg, he]
    show (decide (M.unk x = M.unk x) && all2 (sameV (sameB k 0)) ((M.vals x).map _) (M.vals x)) = true
    rw [decide_eq_true rfl, Bool.true_and]
    refine all2_map _ _ fun u hu => ?_
    have hnil : u.subs = [] := by
      cases e : u.subs with
      | nil => rfl
      | cons y r => exact Empty.elim y
    unfold sameV valTo
    simp only [hnil]
    simp [all2]
  | succ d ih =>
    intro k m v x h hw hm hr hk
    have hsn := sane hs h hw
    have hlen : ∀ u ∈ M.vals x, ∀ y ∈ u.subs, ∃ k', k = k' + 1 ∧ depthM (d + 1) y ≤ k' := fun u hu y hy => by
      have := depth_sub hu hy
      exact ⟨k - 1, by omega, by omega⟩
    obtain ⟨-, he⟩ := msg_enc (sub := tsub s k) hs hm hr (fun u hu => (hsn u hu).1) (fun u hu y hy o => by
      obtain ⟨k', rfl, -⟩ := hlen u hu y hy
      rfl)
    have hok : ValsOk (fitsB (rightB s (d + 1))) (s.getD m .zero).fields (M.vals x) := by
      have h1 := hr
      unfold rightB at h1
      rw [if_neg (by omega), Int.toNat_natCast, Bool.and_eq_true] at h1
      exact (valsOk_of h1.1).1
    rw [tof_msg, he]
    show (decide (M.unk x = M.unk x) && all2 (sameV (sameB k (d + 1))) ((M.vals x).map _) (M.vals x)) = true
    rw [decide_eq_true rfl, Bool.true_and]
    refine all2_map _ _ fun u hu => ?_
    obtain ⟨h1, h2, h3, h4⟩ := hok.at' u hu
    unfold sameV valTo
    simp only [and_self, decide_true, Bool.true_and]
    refine all2_flat _ _ fun y hy => ?_
    obtain ⟨k', rfl, hk'⟩ := hlen u hu y hy
    obtain ⟨g1, v', g2⟩ := (hsn u hu).2 y hy
    have hq : (qOf (s.getD m .zero).fields u).toNat < (s.getD m .zero).fields.length := by omega
    have hof := of_range hs hm hq
    obtain ⟨o, ho⟩ : ∃ o : Nat, ((s.getD m .zero).fields.getD (qOf (s.getD m .zero).fields u).toNat .zero).of = o := ⟨_, (Int.toNat_of_nonneg hof.1).symm⟩
    have hR : rightB s (d + 1) ((s.getD m .zero).fields.getD (qOf (s.getD m .zero).fields u).toNat .zero).of y = true := by
      rcases (fits_cases h4).2.2 with ⟨-, -, e, -⟩ | ⟨-, -, -, e⟩ | ⟨-, -, -, -, e, -⟩
      · rw [e] at hy; simp at hy
      · exact e y hy
      · rw [e] at hy; simp at hy
    rw [ho] at hR hof ⊢
    refine ⟨_, rfl, ?_⟩
    rw [Int.toNat_natCast]
    exact ih k' o v' y g2 g1 (by omega) hR hk'
end Go.Proofs.YtbdeclkccchnoaaGreat
