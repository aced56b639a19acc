/- Plain laws: what a mask keeps, or leaves, of bytes (kpart): no longer than they are. No condition. Plain laws: the uppermost rows' bytes are the whole's; values, records, depths of rows. No condition. stats.Total: the sums of the rows whose path has no point, and is not none. Their sums are at most 2^60. stats.Depths: how many messages lie how deep. At most 2^30 bytes. -/
import Derived.Test.YtphkmpnahnakaaaShelf
import Derived.Test.YtphkmpnahnakaaaZ16
import Derived.Test.YtphkmpnahnakaaaZ24
import Derived.Test.YtphkmpnahnakaaaZ25
import Derived.Test.YtphkmpnahnakaaaZ27
import Derived.BigRegion
import Derived.BigQuiet
namespace Go.Proofs.Ytphkmpnahnakaaa
open Go.RowKit
/-- the records are the bytes, one behind the other -/
theorem vallGo_flat (fs : List Fld) (l : List UInt8) : ∀ (n i : Nat), l.length ≤ n + i → (vallGo fs l n i).2.2 = 0 → ((vallGo fs l n i).1.flatMap fun x => part l x.r.start x.r.to) = l.drop i
  | 0, i, hn, _ => by
    rw [vallGo, List.flatMap_nil, List.drop_of_length_le (by omega)]
  | n + 1, i, hn, h => by
    rw [vallGo] at h ⊢
    by_cases hi : l.length ≤ i
    · rw [if_pos hi, List.flatMap_nil, List.drop_of_length_le hi]
    rw [if_neg hi] at h ⊢
    by_cases hc : (vlook fs l i).2.2.2 = 0
    · rw [if_neg (by omega)] at h ⊢
      simp only at h ⊢
      by_cases hr : (vallGo fs l n (vlook fs l i).1.to).2.2 = 0
      · rw [if_neg (by omega), List.flatMap_cons]
        have hto := vlook_to fs l i hc
        rw [vallGo_flat fs l n _ (by omega) hr]
        have hst : (vlook fs l i).1.start = i := by
          rcases vlook_cases fs l i with ⟨c, hc', e, -⟩ | ⟨r, h1, h2, h3, h4, h5, e | ⟨k, run, hk, e, -, h6, h7⟩⟩
          · rw [e] at hc; exact absurd hc hc'
          · rw [e]; exact h1
          · rw [e]; exact h1
        show part l (vlook fs l i).1.start (vlook fs l i).1.to ++ l.drop (vlook fs l i).1.to = l.drop i
        rw [hst]
        unfold part
        have e : l.drop (vlook fs l i).1.to = (l.drop i).drop ((vlook fs l i).1.to - i) := by rw [List.drop_drop]; congr 1; omega
        rw [e, List.take_append_drop]
      · rw [if_pos hr] at h
        exact absurd h hr
    · rw [if_pos hc] at h
      exact absurd h hc
theorem vall_flat {fs : List Fld} {l : List UInt8} (h : (vall fs l).2.2 = 0) : ((vall fs l).1.flatMap fun x => part l x.r.start x.r.to) = l := by
  have := vallGo_flat fs l l.length 0 (by omega) h
  rwa [List.drop_zero] at this
end Go.Proofs.Ytphkmpnahnakaaa
namespace Go.Proofs.Ytphkmpnahnakaaa
open Go.RowKit
def sumE (f : SE → Nat) (t : List SE) (p : ByteArray) : Nat := ((t.filter fun e => decide (e.path = p)).map f).sum
theorem sumE_cons (f : SE → Nat) (e : SE) (r : List SE) (p : ByteArray) : sumE f (e :: r) p = (if e.path = p then f e else 0) + sumE f r p := by
  unfold sumE
  by_cases h : e.path = p
  · rw [if_pos h, List.filter_cons_of_pos (by simpa using h), List.map_cons, List.sum_cons]
  · rw [if_neg h, List.filter_cons_of_neg (by simpa using h), Nat.zero_add]
theorem sum_one (a : ByteArray) (b : Nat) : ∀ {ks : List ByteArray}, ks.Nodup → (a ∈ ks → (ks.map fun p => if a = p then b else 0).sum = b) ∧ (¬ a ∈ ks → (ks.map fun p => if a = p then b else 0).sum = 0)
  | [], _ => by simp
  | k :: r, h => by
    rw [List.nodup_cons] at h
    obtain ⟨i1, i2⟩ := sum_one a b h.2
    rw [List.map_cons, List.sum_cons]
    by_cases e : a = k
    · subst e
      rw [if_pos rfl, i2 h.1]
      exact ⟨fun _ => by omega, fun hn => absurd (by simp) hn⟩
    · rw [if_neg e]
      refine ⟨fun hm => ?_, fun hn => ?_⟩
      · rw [i1 (by rcases List.mem_cons.1 hm with h2 | h2; exact absurd h2 e; exact h2)]; omega
      · rw [i2 fun hm => hn (List.mem_cons_of_mem _ hm)]
theorem map_add_sum (f g : ByteArray → Nat) : ∀ ks : List ByteArray, (ks.map fun p => f p + g p).sum = (ks.map f).sum + (ks.map g).sum
  | [] => rfl
  | k :: r => by
    rw [List.map_cons, List.map_cons, List.map_cons, List.sum_cons, List.sum_cons, List.sum_cons, map_add_sum f g r]
    omega
/-- over the keys of a kind: over the events of that kind -/
theorem sumE_keys (f : SE → Nat) (g : ByteArray → Bool) {ks : List ByteArray} (hd : ks.Nodup) : ∀ (t : List SE), (∀ e ∈ t, e.path ∈ ks) → ((ks.filter g).map (sumE f t)).sum = ((t.filter fun e => g e.path).map f).sum
  | [], _ => by
    have : ∀ l : List ByteArray, (l.map (sumE f [])).sum = 0 := by
      intro l
      induction l with
      | nil => rfl
      | cons a r ih => rw [List.map_cons, List.sum_cons, ih]; rfl
    rw [this]; rfl
  | e :: r, h => by
    have hnd : (ks.filter g).Nodup := hd.filter _
    have ih := sumE_keys f g hd r fun x hx => h x (by simp [hx])
    have e1 : (ks.filter g).map (sumE f (e :: r)) = (ks.filter g).map fun p => (if e.path = p then f e else 0) + sumE f r p := List.map_congr_left fun p _ => sumE_cons f e r p
    rw [e1, map_add_sum (fun p => if e.path = p then f e else 0) (sumE f r), ih]
    obtain ⟨i1, i2⟩ := sum_one e.path (f e) hnd
    by_cases hg : g e.path = true
    · rw [i1 (List.mem_filter.2 ⟨h e (by simp), hg⟩), List.filter_cons_of_pos (p := fun e : SE => g e.path) hg, List.map_cons, List.sum_cons]
    · rw [i2 fun hm => hg (List.mem_filter.1 hm).2, List.filter_cons_of_neg (p := fun e : SE => g e.path) hg, Nat.zero_add]
theorem cnt_sumE (t : List SE) (p : ByteArray) : cntE t p = sumE (fun _ => 1) t p := by
  unfold cntE sumE
  generalize t.filter (fun e => decide (e.path = p)) = l
  induction l with
  | nil => rfl
  | cons a r ih => rw [List.length_cons, List.map_cons, List.sum_cons, ih]; omega
theorem len_sum (t : List SE) : (t.map fun _ => 1).sum = t.length := by
  induction t with
  | nil => rfl
  | cons a r ih => rw [List.map_cons, List.sum_cons, ih, List.length_cons]; omega
/-- the records of all rows -/
theorem cnt_all {t : List SE} {ks : List ByteArray} (h : KeysOf t ks) : (ks.map (cntE t)).sum = t.length := by
  have h1 := sumE_keys (fun _ => 1) (fun _ => true) h.nd t fun e he => (h.mem _).2 ⟨e, he, rfl⟩
  rw [List.filter_eq_self.2 fun _ _ => rfl, List.filter_eq_self.2 fun _ _ => rfl] at h1
  rw [← len_sum t, ← h1]
  congr 1
  exact List.map_congr_left fun p _ => cnt_sumE t p
/-- below a path there is a point -/
def dotB (p : ByteArray) : Bool := p.data.toList.contains 46
theorem dot_under {p n : ByteArray} (h : 1 ≤ p.size) : dotB (underS p n) = true := by
  unfold dotB underS
  rw [if_neg (by omega), ByteArray.data_append, ByteArray.data_append]
  simp
theorem evsub_dot (s : List Mes) : ∀ (d : Nat) (m : Int) (l : List UInt8) (p : ByteArray), 1 ≤ p.size → ∀ e ∈ evsub s d m l p, dotB e.path = true
  | 0, _, _, _, _, e, he => by simp [evsub] at he
  | d + 1, m, l, p, hp, e, he => by
    rw [evsub] at he
    obtain ⟨y, -, he⟩ := List.mem_flatMap.1 he
    unfold evA at he
    rcases List.mem_cons.1 he with rfl | he
    · exact dot_under hp
    · split at he
      · refine evsub_dot s d _ _ _ ?_ e he
        unfold underS
        rw [if_neg (by omega), ByteArray.size_append, ByteArray.size_append]
        omega
      · cases he
theorem name_dot {n : ByteArray} (h : nameOk n = true) : dotB n = false := by
  unfold dotB
  cases hc : n.data.toList.contains 46 with
  | false => rfl
  | true =>
    rw [List.contains_iff_mem] at hc
    obtain ⟨i, hi⟩ := List.getElem?_of_mem hc
    have hil : i < n.size := by
      have h1 := (List.getElem?_eq_some_iff.1 hi).1
      rw [Array.length_toList] at h1
      exact h1
    unfold nameOk at h
    rw [Bool.and_eq_true, List.all_eq_true] at h
    have h1 := h.1 i (List.mem_range.2 hil)
    have hb : byteAt n i = 46 := by
      unfold byteAt
      rw [List.getD_eq_getElem?_getD, hi]; rfl
    rw [hb] at h1
    unfold charOk at h1
    rw [Bool.or_eq_true] at h1
    rcases h1 with h1 | h1
    · exact absurd h1 (by decide)
    · have := of_decide_eq_true h1
      omega
/-- the uppermost records' bytes are the whole's -/
theorem top_bytes {s : List Mes} (hs : sright s = true) {d m : Nat} {l : List UInt8} (hm : m < s.length) (hv : (vmsg s d m l).2 = 0) :
    (((evsub s (d + 1) (m : Int) l emptyS).filter fun e => !dotB e.path).map SE.bytes).sum = l.length := by
  obtain ⟨h1, h2⟩ := vall_ok hv
  have hfl := vall_flat h1
  rw [evsub_views]
  have key : ∀ xs : List VW, (∀ x ∈ xs, ViewOk s d m l x) → (((xs.flatMap (evV s d (s.getD m .zero).fields l emptyS)).filter fun e => !dotB e.path).map SE.bytes).sum = (xs.flatMap fun x => part l x.r.start x.r.to).length := by
    intro xs
    induction xs with
    | nil => intro _; rfl
    | cons x r ih =>
      intro h
      have ih' := ih fun y hy => h y (by simp [hy])
      have hx := h x (by simp)
      rw [List.flatMap_cons, List.flatMap_cons, List.filter_append, List.map_append, List.sum_append, ih', List.length_append]
      congr 1
      have hu : underS emptyS (nameOf (s.getD m .zero).fields x.k) = nameOf (s.getD m .zero).fields x.k := by
        have h0 : emptyS.size = 0 := rfl
        unfold underS
        rw [if_pos h0]
      have hnd : dotB (nameOf (s.getD m .zero).fields x.k) = false := by
        obtain ⟨-, -, -, hf⟩ := hx.facts
        unfold nameOf
        rcases hf with ⟨hk, -⟩ | ⟨k, hk, hkl, -⟩
        · rw [hk, if_pos (by decide)]; decide
        · rw [hk, if_neg (by omega), Int.toNat_natCast]
          exact name_dot (sright_nameS hs m hm _ (getD_memS _ _ _ hkl))
      have hsub : ∀ o v, (evsub s d o v (underS emptyS (nameOf (s.getD m .zero).fields x.k))).filter (fun e => !dotB e.path) = [] := fun o v => by
        rw [List.filter_eq_nil_iff]
        intro e he
        rw [evsub_dot s d o v _ (by rw [hu]; exact (nameOf_size hs hm hx).1) e he]
        decide
      unfold evV evA
      have hfirst : ∀ (t : List SE) (b v : Nat), t.filter (fun e => !dotB e.path) = [] → (((⟨underS emptyS (nameOf (s.getD m .zero).fields x.k), b, v⟩ : SE) :: t).filter (fun e => !dotB e.path)).map SE.bytes = [b] := fun t b v ht => by
        rw [List.filter_cons_of_pos (by show (!dotB (underS emptyS (nameOf (s.getD m .zero).fields x.k))) = true; rw [hu, hnd]; rfl), ht]; rfl
      split
      · have := hfirst _ (part l x.r.start x.r.to).length (part l x.r.at' x.r.to).length (hsub ((s.getD m .zero).fields.getD x.k.toNat .zero).of (part l x.r.at' x.r.to))
        show (List.map SE.bytes (List.filter _ (_ :: _))).sum = _
        exact (congrArg List.sum this).trans (by simp)
      · have := hfirst [] (part l x.r.start x.r.to).length (part l x.r.at' x.r.to).length rfl
        exact (congrArg List.sum this).trans (by simp)
  rw [key _ h2, hfl]
theorem total_bytes {s : List Mes} (hs : sright s = true) {d m : Nat} {l : List UInt8} (hm : m < s.length) (hv : (vmsg s d m l).2 = 0) {ks : List ByteArray} (hk : KeysOf (evsub s (d + 1) (m : Int) l emptyS) ks) :
    ((ks.filter fun p => !dotB p).map (bytE (evsub s (d + 1) (m : Int) l emptyS))).sum = l.length := by
  have h := sumE_keys SE.bytes (fun p => !dotB p) hk.nd _ fun e he => (hk.mem _).2 ⟨e, he, rfl⟩
  rw [top_bytes hs hm hv] at h
  exact h
/-- values are no longer than bytes -/
theorem evsub_vals (s : List Mes) : ∀ (d : Nat) (m : Int) (l : List UInt8) (p : ByteArray), ∀ e ∈ evsub s d m l p, e.vals ≤ e.bytes
  | 0, _, _, _, e, he => by simp [evsub] at he
  | d + 1, m, l, p, e, he => by
    rw [evsub] at he
    obtain ⟨y, hy, he⟩ := List.mem_flatMap.1 he
    unfold arecs at hy
    obtain ⟨x, hx, rfl⟩ := List.mem_map.1 hy
    have ht := (vall_sum (s.getD m.toNat .zero).fields l l.length 0 (Nat.zero_le _)).2 x hx
    unfold evA at he
    rcases List.mem_cons.1 he with rfl | he
    · show (part l x.r.at' x.r.to).length ≤ (part l x.r.start x.r.to).length
      unfold Thin vsize at ht
      unfold part
      rw [List.length_take, List.length_take, List.length_drop, List.length_drop]
      omega
    · split at he
      · exact evsub_vals s d _ _ _ e he
      · cases he
theorem val_le {t : List SE} (h : ∀ e ∈ t, e.vals ≤ e.bytes) (p : ByteArray) : valE t p ≤ bytE t p := by
  unfold valE bytE
  have : ∀ l : List SE, (∀ e ∈ l, e.vals ≤ e.bytes) → (l.map SE.vals).sum ≤ (l.map SE.bytes).sum := by
    intro l
    induction l with
    | nil => intro _; exact Nat.le_refl _
    | cons a r ih =>
      intro hl
      have h1 := hl a (by simp)
      have h2 := ih fun e he => hl e (by simp [he])
      rw [List.map_cons, List.map_cons, List.sum_cons, List.sum_cons]
      omega
  exact this _ fun e he => h e (List.mem_filter.1 he).1
theorem cnt_pos {t : List SE} {ks : List ByteArray} (h : KeysOf t ks) {p : ByteArray} (hp : p ∈ ks) : 1 ≤ cntE t p := by
  obtain ⟨e, he, h2⟩ := (h.mem p).1 hp
  unfold cntE
  exact List.length_pos_of_mem (List.mem_filter.2 ⟨he, by simpa using h2⟩)
/-- how many depths there are, and the first of them -/
theorem dmsg_len (s : List Mes) : ∀ (d : Nat) (m : Int) (l : List UInt8) (k : Nat) (ds : List Int), (dmsg s d m l k ds).length ≤ max ds.length (k + d)
  | 0, _, _, _, _ => by rw [dmsg]; omega
  | d + 1, m, l, k, ds => by
    rw [dmsg]
    have h0 : (bumpD ds k).length ≤ max ds.length (k + (d + 1)) := by rw [bumpD_len]; omega
    have : ∀ (xs : List AR) (es : List Int), es.length ≤ max ds.length (k + (d + 1)) → (xs.foldl (subD (fun o v ds => dmsg s d o v (k + 1) ds) (s.getD m.toNat .zero).fields) es).length ≤ max ds.length (k + (d + 1)) := by
      intro xs
      induction xs with
      | nil => intro es h; exact h
      | cons x r ih =>
        intro es h
        rw [List.foldl_cons]
        refine ih _ ?_
        unfold subD
        split
        · have := dmsg_len s d ((s.getD m.toNat .zero).fields.getD x.k.toNat .zero).of x.val (k + 1) es
          exact Nat.le_trans this (by omega)
        · exact h
    exact this _ _ h0
theorem dmsg_first (s : List Mes) (d : Nat) (m : Int) (l : List UInt8) : (dmsg s (d + 1) m l 0 [])[0]? = some 1 ∧ (dmsg s (d + 1) m l 0 []).length ≤ d + 1 := by
  refine ⟨?_, by have := dmsg_len s (d + 1) m l 0 []; simp at this; omega⟩
  rw [dmsg]
  have h := foldl_low (subD (fun o v ds => dmsg s d o v (0 + 1) ds) (s.getD m.toNat .zero).fields) 1 (fun ds x hx => by
    unfold subD
    split
    · exact dmsg_low s d _ _ 1 ds hx
    · exact ⟨hx, fun _ _ => rfl⟩) (arecs (s.getD m.toNat .zero).fields l) (bumpD [] 0) (by decide)
  exact (h.2 0 (by decide)).trans (by decide)
end Go.Proofs.Ytphkmpnahnakaaa
namespace Go.Proofs.Ytphkmpnahnakaaa
open Go.RowKit Go.Shelf
def topR (x : SR) : Bool := decide (x.path ≠ emptyS) && !dotB x.path
def totR (l : List SR) : SR := ⟨emptyS, ((l.filter topR).map SR.recs).sum, ((l.filter topR).map SR.bytes).sum, ((l.filter topR).map SR.vals).sum⟩
theorem totR_step {L : List SR} {k : Nat} {x : SR} (h : L[k]? = some x) : totR (L.take (k + 1)) = if topR x = true then ⟨emptyS, (totR (L.take k)).recs + x.recs, (totR (L.take k)).bytes + x.bytes, (totR (L.take k)).vals + x.vals⟩ else totR (L.take k) := by
  unfold totR
  rw [List.take_add_one, h, Option.toList_some, List.filter_append, List.map_append, List.map_append, List.map_append, List.sum_append, List.sum_append, List.sum_append]
  by_cases hx : topR x = true
  · rw [if_pos hx, List.filter_cons_of_pos hx]
    simp
  · rw [if_neg hx, List.filter_cons_of_neg hx]
    simp
theorem totR_le (L : List SR) (k : Nat) : (totR (L.take k)).recs ≤ (totR L).recs ∧ (totR (L.take k)).bytes ≤ (totR L).bytes ∧ (totR (L.take k)).vals ≤ (totR L).vals := by
  have h : L = L.take k ++ L.drop k := (List.take_append_drop k L).symm
  have h2 : ∀ f : SR → Nat, ((L.filter topR).map f).sum = (((L.take k).filter topR).map f).sum + (((L.drop k).filter topR).map f).sum := fun f => by
    rw [← List.sum_append, ← List.map_append, ← List.filter_append, ← h]
  unfold totR
  simp only [h2]
  exact ⟨Nat.le_add_right _ _, Nat.le_add_right _ _, Nat.le_add_right _ _⟩
theorem indexByte_contains (c : UInt8) : ∀ l : List UInt8, (-1 ≤ Lib.indexByte l c) ∧ decide (0 ≤ Lib.indexByte l c) = l.contains c
  | [] => by simp [Lib.indexByte]
  | b :: r => by
    obtain ⟨i1, i2⟩ := indexByte_contains c r
    rw [Lib.indexByte]
    by_cases hb : (b == c) = true
    · rw [if_pos hb]
      have hbc : b = c := by simpa using hb
      subst hbc
      exact ⟨by omega, by simp⟩
    · rw [if_neg hb]
      have hne : ¬ c = b := fun e => hb (by simp [e])
      by_cases h1 : (Lib.indexByte r c == -1) = true
      · rw [if_pos h1]
        have h2 : Lib.indexByte r c = -1 := by simpa using h1
        rw [h2] at i2
        refine ⟨by omega, ?_⟩
        rw [List.contains_cons, ← i2]
        simp [hne]
      · rw [if_neg h1]
        have h2 : Lib.indexByte r c ≠ -1 := by simpa using h1
        have h3 : 0 ≤ Lib.indexByte r c := by omega
        refine ⟨by omega, ?_⟩
        rw [List.contains_cons, ← i2, decide_eq_true h3, decide_eq_true (by omega)]
        simp
theorem contains_dot (p : ByteArray) (w : World) : Calls Try.prog 16 #[.string p, .string ⟨#[46]⟩] w fun e w' => e = .returned (.bool (dotB p)) ∧ w' = w := by
  have h := Try.strings_Contains_one p 46 w
  rw [(indexByte_contains 46 p.data.toList).2] at h
  exact h
set_option maxRecDepth 100000 in
set_option maxHeartbeats 16000000 in
theorem stats_Total {w : World} {v : Value} {L : List SR} (h : SegR w v L) (hL : L.length ≤ 1048576) (hb : (totR L).recs ≤ 1152921504606846976 ∧ (totR L).bytes ≤ 1152921504606846976 ∧ (totR L).vals ≤ 1152921504606846976) :
    Calls Try.prog 9 #[v] w fun e w' => e = .returned (.agg #[.string ⟨#[]⟩, .int .i64 ((totR L).recs : Int), .int .i64 ((totR L).bytes : Int), .int .i64 ((totR L).vals : Int)]) ∧ Below w.heap.size w w' := by
  have HS := hid h
  have HBD := hid hb
  obtain ⟨a, c, rfl, -⟩ := h.open
  obtain ⟨n, HN⟩ : ∃ n, Hid (n = L.length) := ⟨_, rfl⟩
  rw [← HN.out] at HS hL ⊢
  obtain ⟨Q, HQ⟩ : ∃ Q : Ending → World → Prop, Hid (Q = fun e w' => e = .returned (.agg #[.string ⟨#[]⟩, .int .i64 ((totR L).recs : Int), .int .i64 ((totR L).bytes : Int), .int .i64 ((totR L).vals : Int)]) ∧ Below w.heap.size w w') := ⟨_, rfl⟩
  rw [← HQ.out]
  obtain ⟨R, HR⟩ : ∃ R, Hid (R = w.heap.size) := ⟨_, rfl⟩
  obtain ⟨W1, HW1⟩ : ∃ W1, Hid (W1 = (w.alloc (.cells #[.string ⟨#[]⟩, .int .i64 0, .int .i64 0, .int .i64 0] 32)).alloc (.cells #[.string ⟨#[]⟩, .int .i64 0, .int .i64 0, .int .i64 0] 32)) := ⟨_, rfl⟩
  have hb1 : Below w.heap.size w W1 := by rw [HW1.out]; exact ((Below.refl _ _).alloc (Nat.le_refl _) _).alloc (by simp) _
  have hr1 : Blk W1 R [.string ⟨#[]⟩, .int .i64 0, .int .i64 0, .int .i64 0] 32 := by
    rw [HW1.out, HR.out]
    exact (Blk.new w [.string ⟨#[]⟩, .int .i64 0, .int .i64 0, .int .i64 0] _).alloc _
  have ho1 : Blk W1 (R + 1) [.string ⟨#[]⟩, .int .i64 0, .int .i64 0, .int .i64 0] 32 := by
    rw [HW1.out]
    exact Blk.new' _ [.string ⟨#[]⟩, .int .i64 0, .int .i64 0, .int .i64 0] _ _ (by rw [World.size_alloc, HR.out])
  have HB1 := hid hb1
  have HR1 := hid hr1
  have HO1 := hid ho1
  have HRS : Hid (w.heap.size ≤ R + 1 ∧ R + 1 < W1.heap.size) := ⟨by rw [HR.out]; omega, ho1.lt⟩
  clear h hb hb1 hr1 ho1
  go_enter Try.func9, Try.ntmps9
  go_upto_region 2 with fail
  rw [← HR.out]
  rw [← HW1.out]
  go_wp2_with fail
  go_loopw [8] (fun v8 wr => ∃ k : Nat, v8 = .int .i64 (k : Int) ∧ k ≤ n ∧ Hid (Blk wr (R + 1) (srC (totR (L.take k))) 32 ∧ Below (R + 1) W1 wr)) (fun v8 _ => n - (intOf v8).toNat)
  case atStart => exact ⟨0, rfl, by omega, hid ⟨HO1.out, Below.refl _ _⟩⟩
  case round =>
    obtain ⟨k, rfl, hk, HI⟩ := hrel
    have HBW := hid (HB1.out.trans (HI.out.2.mono HRS.out.1))
    obtain ⟨S1, HS1⟩ : ∃ n, Hid (n = (totR (L.take k)).recs) := ⟨_, rfl⟩
    obtain ⟨S2, HS2⟩ : ∃ n, Hid (n = (totR (L.take k)).bytes) := ⟨_, rfl⟩
    obtain ⟨S3, HS3⟩ : ∃ n, Hid (n = (totR (L.take k)).vals) := ⟨_, rfl⟩
    have hsr : totR (L.take k) = ⟨emptyS, S1, S2, S3⟩ := by rw [HS1.out, HS2.out, HS3.out]; rfl
    have hB := HI.out.1
    rw [hsr] at hB
    have hB : Blk wr (R + 1) [.string ⟨#[]⟩, .int .i64 (S1 : Int), .int .i64 (S2 : Int), .int .i64 (S3 : Int)] 32 := hB
    have HOB := hid hB
    by_cases hlt : k < n
    · obtain ⟨xr, hx⟩ : ∃ r, L[k]? = some r := ⟨_, List.getElem?_eq_getElem (by rw [← HN.out]; exact hlt)⟩
      obtain ⟨a', cap', he, hat⟩ := (HS.out.below HBW.out).open
      obtain ⟨hae, -, hce⟩ := Value.slice.inj he
      subst hae
      subst hce
      obtain ⟨lb, lo, rfl, l0, l1, l2, l3⟩ := hat k xr hx
      have hst := totR_step hx
      have hle := totR_le L (k + 1)
      have hbd := HBD.out
      obtain ⟨p, r1, r2, r3⟩ := xr
      simp only at l0 l1 l2 l3
      have hix := index_run Try.underlying27 size_srow (rfl : some (⟨lb, lo, none⟩ : Addr) = some ⟨lb, lo, none⟩) k hlt (cap := c)
      have hll := World.block_lt_of_cell? wr _ l0
      obtain ⟨VB, HVB⟩ : ∃ b, Hid (b = wr.heap.size) := ⟨_, rfl⟩
      obtain ⟨W4, HW4⟩ : ∃ W, Hid (W = wr.alloc (.cells #[.string p, .int .i64 (r1 : Int), .int .i64 (r2 : Int), .int .i64 (r3 : Int)] 32)) := ⟨_, rfl⟩
      have hb4 : Below wr.heap.size wr W4 := by rw [HW4.out]; exact (Below.refl _ _).alloc (Nat.le_refl _) _
      have hv4 : Blk W4 VB [.string p, .int .i64 (r1 : Int), .int .i64 (r2 : Int), .int .i64 (r3 : Int)] 32 := by rw [HW4.out, HVB.out]; exact Blk.new wr [.string p, .int .i64 (r1 : Int), .int .i64 (r2 : Int), .int .i64 (r3 : Int)] _
      have HB4 := hid hb4
      have HV4 := hid hv4
      have HO4 := hid (HOB.out.below hb4)
      have HBR4 := hid (HI.out.2.trans (hb4.mono (Nat.le_of_lt HOB.out.lt)))
      have hvo : VB ≠ R + 1 := by have := HOB.out.lt; rw [HVB.out]; omega
      have HVO := hid hvo
      have HSTP := hid hst
      have HLE := hid (And.intro hle hbd)
      clear he hat hx hb4 hv4 hst hle hbd hB hvo hsr
      go_upto_region 5 with fail
      rw [← HW4.out, ← HVB.out]
      clear l0 l1 l2 l3 hix hll
      have v0 := HV4.out.cell 0 _ rfl
      have vl := HV4.out.lt
      by_cases hp : p.size = 0
      · have e1 : p.toList.isEmpty = true := by
          have : p = ⟨#[]⟩ := by cases p; simp [ByteArray.size] at hp; rw [hp]
          rw [this, ByteArray.toList_eq]; rfl
        have htp : topR ⟨p, r1, r2, r3⟩ = false := by
          have : p = emptyS := by cases p; simp [ByteArray.size] at hp; rw [hp]; rfl
          unfold topR
          rw [this]; simp
        have HT := HSTP.out
        rw [htp, if_neg (by decide)] at HT
        have HT := hid HT
        go_wp2_with fail
        go_roundw
        case rel =>
          refine ⟨k + 1, by go_num, hlt, ?_⟩
          rw [HT.out, HS1.out, HS2.out, HS3.out] at *
          exact hid ⟨HO4.out, HBR4.out⟩
        case measure => simp [intOf]; omega
      · have e1 : p.toList.isEmpty = false := toList_ne hp
        obtain ⟨db, HDB⟩ : ∃ b, Hid (b = dotB p) := ⟨_, rfl⟩
        have HTP : Hid (topR ⟨p, r1, r2, r3⟩ = !db) := by
          have : ¬ p = emptyS := fun h => hp (by rw [h]; rfl)
          rw [Hid, HDB.out]
          unfold topR
          simp [this]
        have HCN := hid (contains_dot p W4)
        rw [← HDB.out] at HCN
        go_wp2_with fail
        refine HCN.out.mono ?_
        rintro e w5 ⟨rfl, rfl⟩
        clear HCN
        cases db with
        | true =>
          have HT := HSTP.out
          rw [HTP.out, if_neg (by decide)] at HT
          have HT := hid HT
          go_wp2_with fail
          go_roundw
          case rel =>
            refine ⟨k + 1, by go_num, hlt, ?_⟩
            rw [HT.out, HS1.out, HS2.out, HS3.out] at *
            exact hid ⟨HO4.out, HBR4.out⟩
          case measure => simp [intOf]; omega
        | false =>
          have hT := HSTP.out
          rw [HTP.out, if_pos (by decide)] at hT
          have hbd : S1 + r1 ≤ 1152921504606846976 ∧ S2 + r2 ≤ 1152921504606846976 ∧ S3 + r3 ≤ 1152921504606846976 := by
            have h := HLE.out
            rw [hT] at h
            simp only [← HS1.out, ← HS2.out, ← HS3.out] at h
            omega
          obtain ⟨hd1, hd2, hd3⟩ := hbd
          rw [← HS1.out, ← HS2.out, ← HS3.out] at hT
          have HT := hid hT
          have o1 := HO4.out.cell 1 _ rfl
          have o2 := HO4.out.cell 2 _ rfl
          have o3 := HO4.out.cell 3 _ rfl
          have y1 := HO4.out.free 1
          have y2 := HO4.out.free 2
          have y3 := HO4.out.free 3
          have ol := HO4.out.lt
          have v1 := HV4.out.cell 1 _ rfl
          have v2 := HV4.out.cell 2 _ rfl
          have v3 := HV4.out.cell 3 _ rfl
          have HNEW := hid (((HO4.out.set 1 (.int .i64 ((S1 : Int) + r1))).set 2 (.int .i64 ((S2 : Int) + r2))).set 3 (.int .i64 ((S3 : Int) + r3)))
          have hvo := HVO.out
          clear hT v0 e1
          go_upto_region 6 with fail
          go_big_region
          all_goals
            clear o1 o2 o3 y1 y2 y3 ol v1 v2 v3 hvo hd1 hd2 hd3 vl
            go_wp2_with fail
            go_roundw
            case rel =>
              refine ⟨k + 1, by go_num, hlt, ?_⟩
              rw [HT.out]
              refine hid ⟨?_, ?_⟩
              · have h := HNEW.out
                exact h
              · (repeat (first | with_reducible exact Below.refl _ _ | with_reducible refine Below.setCell ?_ (by first | omega | (simp; omega) | (simp; done)) _ | with_reducible refine Below.alloc ?_ (by first | omega | (simp; omega) | (simp; done)) _ | with_reducible refine below_drewN ?_ _ | with_reducible refine Below.drew ?_))
                exact HBR4.out
            case measure => simp [intOf]; omega
    · obtain rfl : k = n := by omega
      have hR : Blk wr R [.string ⟨#[]⟩, .int .i64 0, .int .i64 0, .int .i64 0] 32 := (HI.out.2.block R (by omega)).trans HR1.out
      have o0 := hB.cell 0 _ rfl
      have o1 := hB.cell 1 _ rfl
      have o2 := hB.cell 2 _ rfl
      have o3 := hB.cell 3 _ rfl
      have ol := hB.lt
      have r0 := hR.cell 0 _ rfl
      have r1 := hR.cell 1 _ rfl
      have r2 := hR.cell 2 _ rfl
      have r3 := hR.cell 3 _ rfl
      have rl := hR.lt
      have z0 := hR.free 0
      have z1 := hR.free 1
      have z2 := hR.free 2
      have z3 := hR.free 3
      have s1 := hR.set 0 (.string ⟨#[]⟩)
      have s2 := s1.set 1 (.int .i64 (S1 : Int))
      have s3 := s2.set 2 (.int .i64 (S2 : Int))
      have s4 := s3.set 3 (.int .i64 (S3 : Int))
      have x0 := s4.cell 0 _ rfl
      have x1 := s4.cell 1 _ rfl
      have x2 := s4.cell 2 _ rfl
      have x3 := s4.cell 3 _ rfl
      have HE : Hid (Q (.returned (.agg #[.string ⟨#[]⟩, .int .i64 (S1 : Int), .int .i64 (S2 : Int), .int .i64 (S3 : Int)])) ((((wr.setCell ⟨R, 0, none⟩ (.string ⟨#[]⟩)).setCell ⟨R, 1, none⟩ (.int .i64 (S1 : Int))).setCell ⟨R, 2, none⟩ (.int .i64 (S2 : Int))).setCell ⟨R, 3, none⟩ (.int .i64 (S3 : Int)))) := by
        rw [List.take_of_length_le (by rw [← HN.out]; exact Nat.le_refl _)] at hsr
        rw [HQ.out, hsr]
        refine ⟨rfl, ?_⟩
        have hrw : w.heap.size ≤ R := by rw [HR.out]; exact Nat.le_refl _
        exact (((HBW.out.setCell hrw _).setCell hrw _).setCell hrw _).setCell hrw _
      clear hB hR hsr s1 s2 s3 s4
      go_wp2_with fail
      refine bodyPost_ret (v := .agg #[.string ⟨#[]⟩, .int .i64 (S1 : Int), .int .i64 (S2 : Int), .int .i64 (S3 : Int)]) ?_ rfl HE.out
      simp [results, Try.results9, go_sem, x0, x1, x2, x3]
end Go.Proofs.Ytphkmpnahnakaaa
namespace Go.Proofs.Ytphkmpnahnakaaa
open Go.RowKit Go.Shelf
def DepPost (w : World) (s : List Mes) (root d : Int) (l : List UInt8) (z : Nat) (e : Ending) (w' : World) : Prop :=
  Below w.heap.size w w' ∧ (z ≠ 0 → e = .returned (.tuple #[.slice none 0 0, .int .u8 (z : Nat)])) ∧
  (z = 0 → ∃ (v : Value) (base : Nat), e = .returned (.tuple #[v, .int .u8 0]) ∧ IntsOwn w' base v (dmsg s (d.toNat + 1) root l 0 []))
set_option maxRecDepth 100000 in
set_option maxHeartbeats 8000000 in
theorem stats_Depths {w : World} {sv bv : Value} {s : List Mes} {l : List UInt8} (hS : SchemaAt w sv s) (hb : Bytes w bv l) (hl : l.length ≤ 1073741824) (root d : Int) :
    Calls Try.prog 10 #[sv, .int .i64 root, bv, .int .i64 d] w (DepPost w s root d l (vcheck s root l d).2) := by
  have HC := hid (stats_read hS hb hl root d)
  obtain ⟨-, sa, sc, rfl, -⟩ := hS.open
  obtain ⟨-, a, c, rfl, -⟩ := hb.open
  obtain ⟨z, HZ⟩ : ∃ z, Hid (z = (vcheck s root l d).2) := ⟨_, rfl⟩
  obtain ⟨n, HN⟩ : ∃ n, Hid (n = l.length) := ⟨_, rfl⟩
  unfold ReadPost at HC
  rw [← HZ.out] at HC ⊢
  rw [← HN.out] at HC hl ⊢
  obtain ⟨Q, HQ⟩ : ∃ Q : Ending → World → Prop, Hid (Q = DepPost w s root d l z) := ⟨_, rfl⟩
  rw [← HQ.out]
  clear hS hb
  go_enter Try.func10, Try.ntmps10
  go_wp2_with fail
  refine HC.out.mono ?_
  rintro e w3 ⟨hb3, h0, h1⟩
  have HB3 := hid hb3
  by_cases hz : z = 0
  · subst hz
    obtain ⟨K, r, B1, G, Wg, W5, es, dv, rfl, hW5, hI⟩ := h1 rfl
    obtain ⟨da, dc, rfl⟩ := hI.di.form
    have k2 := hI.blk.cell 2 _ rfl
    have kl := hI.blk.lt
    obtain ⟨dn, HDN⟩ : ∃ n, Hid (n = (dmsg s (d.toNat + 1) root l 0 []).length) := ⟨_, rfl⟩
    rw [← HDN.out] at k2
    have HE : Hid (Q (.returned (.tuple #[.slice da dn dc, .int .u8 0])) w3) := by
      rw [HQ.out]
      exact ⟨hb3, fun h => absurd rfl h, fun _ => ⟨_, B1, rfl, by rw [HDN.out]; exact hI.di⟩⟩
    clear h0 h1 hI hW5 HC hb3
    go_wp2_with fail
    exact HE.out
  · have he := h0 hz
    subst he
    have hzc : ((z : Int) == 0) = false := by simpa using hz
    have hzn : ((z : Int) != 0) = true := by simpa using hz
    have HE : Hid (Q (.returned (.tuple #[.slice none 0 0, .int .u8 (z : Nat)])) w3) := by
      rw [HQ.out]
      exact ⟨hb3, fun _ => rfl, fun h => absurd h hz⟩
    clear hz h0 h1
    go_wp2_with fail
    exact HE.out
end Go.Proofs.Ytphkmpnahnakaaa
