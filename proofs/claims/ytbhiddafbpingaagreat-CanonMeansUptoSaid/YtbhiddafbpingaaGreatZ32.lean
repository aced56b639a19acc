/- Plain laws: canonical bytes mean what is like the meaning (tof_enc). No condition. Plain laws: a right meaning's canonical bytes are valid, at most as deep as it (vmsg_enc). No condition. Plain laws: the weight of the meaning of bytes (tof_weight). No condition. bytes.Equal. No condition. What is asked of tree.of and of darningref14.Of: valid bytes' meaning (tof), in new memory. -/
import Derived.Test.YtbhiddafbpingaaGreatZ01
import Derived.Test.YtbhiddafbpingaaGreatZ22
import Derived.Test.YtbhiddafbpingaaGreatZ25
import Derived.Test.YtbhiddafbpingaaGreatZ27
import Derived.Test.YtbhiddafbpingaaGreatZ30
import Derived.Test.YtbhiddafbpingaaGreatZ31
namespace Go.Proofs.YtbhiddafbpingaaGreat
open Go.RowKit
theorem depth_sub {d : Nat} {x : M (d + 1)} {v : Val (M d)} {y : M d} (hv : v ∈ M.vals x) (hy : y ∈ v.subs) : depthM d y + 1 ≤ depthM (d + 1) x := by
  have h1 := (foldl_max (v.subs.map fun y => depthM d y + 1) 0).2 _ (List.mem_map.2 ⟨y, hy, rfl⟩)
  have h2 := (foldl_max ((M.vals x).map (depthV (depthM d))) 0).2 _ (List.mem_map.2 ⟨v, hv, rfl⟩)
  have h3 : depthM (d + 1) x = ((M.vals x).map (depthV (depthM d))).foldl max 0 := rfl
  have h4 : depthM d y + 1 ≤ depthV (depthM d) v := h1
  omega
theorem all2_map {α β : Type} {S : β → α → Bool} (g : α → β) : ∀ (l : List α), (∀ x ∈ l, S (g x) x = true) → all2 S (l.map g) l = true
  | [], _ => rfl
  | x :: r, h => by
    rw [List.map_cons, all2, h x (by simp), all2_map g r fun y hy => h y (by simp [hy])]; rfl
theorem all2_flat {α β : Type} {S : β → α → Bool} (g : α → List β) : ∀ (l : List α), (∀ x ∈ l, ∃ z, g x = [z] ∧ S z x = true) → all2 S (l.flatMap g) l = true
  | [], _ => rfl
  | x :: r, h => by
    obtain ⟨z, e, hz⟩ := h x (by simp)
    rw [List.flatMap_cons, e]
    show (S z x && all2 S (r.flatMap g) r) = true
    rw [hz, all2_flat g r fun y hy => h y (by simp [hy])]; rfl
/-- a meaning in memory is not too large -/
theorem sane {w : World} {s : List Mes} (hs : sright s = true) {d : Nat} {v : Value} {x : M (d + 1)} (h : MsgAt (d + 1) w v x) (hw : mwt (d + 1) x ≤ 1099511627776) :
    ∀ u ∈ M.vals x, ((∀ w ∈ u.words, w < 2 ^ 64) ∧ u.words.length ≤ 1099511627776 ∧ (∀ t ∈ u.texts, t.length < 2 ^ 64) ∧ ∀ y ∈ u.subs, ∀ o : Int, (encM s d o y).length < 2 ^ 64) ∧ ∀ y ∈ u.subs, mwt d y ≤ 1099511627776 ∧ ∃ v', MsgAt d w v' y := by
  obtain ⟨vv, uv, rfl, hV, hU⟩ := h
  obtain ⟨-, va, vc, -, -, hva⟩ := hV.open
  intro u hu
  obtain ⟨k, hk⟩ := List.mem_iff_getElem?.1 hu
  obtain ⟨b, o, v1, v2, v3, -, -, -, -, -, hM⟩ := hva k u hk
  obtain ⟨wv, tv, sv, -, -, hW, hT, hSu⟩ := hM
  obtain ⟨-, sa, sc, -, -, hsa⟩ := hSu.open
  have e : mwt (d + 1) x = 1 + twt (M.unk x) + ((M.vals x).map (vwt (mwt d))).sum := rfl
  have h1 := mem_sum_le (vwt (mwt d)) (M.vals x) u hu
  have hvw : vwt (mwt d) u ≤ 1099511627776 := by omega
  unfold vwt at hvw
  have hsub : ∀ y ∈ u.subs, mwt d y ≤ 1099511627776 ∧ ∃ v', MsgAt d w v' y := by
    intro y hy
    have h2 := mem_sum_le (mwt d) u.subs y hy
    obtain ⟨j, hj⟩ := List.mem_iff_getElem?.1 hy
    obtain ⟨b', o', u1, u2, -, -, -, hm⟩ := hsa j y hj
    exact ⟨by omega, _, hm⟩
  refine ⟨⟨hW.2, by omega, fun t ht => ?_, fun y hy o => ?_⟩, hsub⟩
  · have := hT.2 t ht; omega
  · obtain ⟨g1, v', g2⟩ := hsub y hy
    have := enc_len hs d o v' y g2 (by omega)
    omega
/-- canonical bytes mean what is like the meaning -/
theorem tof_enc {w : World} {s : List Mes} (hs : sright s = true) : ∀ (d k m : Nat) (v : Value) (x : M (d + 1)), MsgAt (d + 1) w v x → mwt (d + 1) x ≤ 1099511627776 → m < s.length → rightB s (d + 1) (m : Int) x = true → depthM (d + 1) x ≤ k →
    sameB (k + 1) (d + 1) (tof s k m (encM s (d + 1) (m : Int) x)) x = true := by
  intro d
  induction d with
  | zero =>
    intro k m v x h hw hm hr hk
    have hsn := sane hs h hw
    obtain ⟨-, he⟩ := msg_enc (sub := tsub s k) hs hm hr (fun u hu => (hsn u hu).1) (fun u _ y _ => Empty.elim y)
    rw [tof_msg, he]
    show (decide (M.unk x = M.unk x) && all2 (sameV (sameB k 0)) ((M.vals x).map _) (M.vals x)) = true
    rw [decide_eq_true rfl, Bool.true_and]
    refine all2_map _ _ fun u hu => ?_
    have hnil : u.subs = [] := by
      cases e : u.subs with
      | nil => rfl
      | cons y r => exact Empty.elim y
    unfold sameV valTo
    simp only [hnil]
    simp [all2]
  | succ d ih =>
    intro k m v x h hw hm hr hk
    have hsn := sane hs h hw
    have hlen : ∀ u ∈ M.vals x, ∀ y ∈ u.subs, ∃ k', k = k' + 1 ∧ depthM (d + 1) y ≤ k' := fun u hu y hy => by
      have := depth_sub hu hy
      exact ⟨k - 1, by omega, by omega⟩
    obtain ⟨-, he⟩ := msg_enc (sub := tsub s k) hs hm hr (fun u hu => (hsn u hu).1) (fun u hu y hy o => by
      obtain ⟨k', rfl, -⟩ := hlen u hu y hy
      rfl)
    have hok : ValsOk (fitsB (rightB s (d + 1))) (s.getD m .zero).fields (M.vals x) := by
      have h1 := hr
      unfold rightB at h1
      rw [if_neg (by omega), Int.toNat_natCast, Bool.and_eq_true] at h1
      exact (valsOk_of h1.1).1
    rw [tof_msg, he]
    show (decide (M.unk x = M.unk x) && all2 (sameV (sameB k (d + 1))) ((M.vals x).map _) (M.vals x)) = true
    rw [decide_eq_true rfl, Bool.true_and]
    refine all2_map _ _ fun u hu => ?_
    obtain ⟨h1, h2, h3, h4⟩ := hok.at' u hu
    unfold sameV valTo
    simp only [and_self, decide_true, Bool.true_and]
    refine all2_flat _ _ fun y hy => ?_
    obtain ⟨k', rfl, hk'⟩ := hlen u hu y hy
    obtain ⟨g1, v', g2⟩ := (hsn u hu).2 y hy
    have hq : (qOf (s.getD m .zero).fields u).toNat < (s.getD m .zero).fields.length := by omega
    have hof := of_range hs hm hq
    obtain ⟨o, ho⟩ : ∃ o : Nat, ((s.getD m .zero).fields.getD (qOf (s.getD m .zero).fields u).toNat .zero).of = o := ⟨_, (Int.toNat_of_nonneg hof.1).symm⟩
    have hR : rightB s (d + 1) ((s.getD m .zero).fields.getD (qOf (s.getD m .zero).fields u).toNat .zero).of y = true := by
      rcases (fits_cases h4).2.2 with ⟨-, -, e, -⟩ | ⟨-, -, -, e⟩ | ⟨-, -, -, -, e, -⟩
      · rw [e] at hy; simp at hy
      · exact e y hy
      · rw [e] at hy; simp at hy
    rw [ho] at hR hof ⊢
    refine ⟨_, rfl, ?_⟩
    rw [Int.toNat_natCast]
    exact ih k' o v' y g2 g1 (by omega) hR hk'
end Go.Proofs.YtbhiddafbpingaaGreat
namespace Go.Proofs.YtbhiddafbpingaaGreat
open Go.RowKit
theorem vmsg_one {s : List Mes} {d m : Nat} {t : List UInt8} {r : Rec} {k : Int} {run : Bool} (hlook : vlook (s.getD m .zero).fields t 0 = (r, k, run, 0)) (hto : r.to = t.length)
    (hv : (vval (vrec s d) (decide (d = 0)) (s.getD m .zero).fields t (r, k, run, 0)).2 = 0) : (vmsg s d m t).2 = 0 := by
  rw [vmsg_from, vfrom_at]
  by_cases h0 : t.length ≤ 0
  · rw [if_pos h0]
  rw [if_neg h0, hlook, if_neg (by simp), if_neg (by rw [hv]; simp)]
  simp only
  rw [hto, vfrom_at, if_pos (Nat.le_refl _)]
/-- a record is valid, if its value is -/
theorem vmsg_rput {s : List Mes} {d m q n x : Nat} {f : Fld} (hf : f = (s.getD m .zero).fields.getD q .zero) (_hq : q < (s.getD m .zero).fields.length) (hn : fieldAt (s.getD m .zero).fields (n : Int) = q) (ht : tagOk n x = true) {t : List UInt8} (hfit : rfits (x : Int) t = true) (hl : t.length < 2 ^ 64) {run : Bool}
    (hrun : run = (f.rep && knumber f.kind && decide (x = 2))) (hk : run = true ∨ kright f.kind = true ∧ kwire f.kind = x)
    (h1 : run = true → (runCount (kwire f.kind) t).2 = 0) (h2 : run = false → f.kind = 15 → ufirst t = t.length) (h3 : run = false → f.kind = 17 → ∃ d', d = d' + 1 ∧ (vmsg s d' f.of.toNat t).2 = 0) :
    (vmsg s d m (rput n x t)).2 = 0 := by
  obtain ⟨h, e1, e2, e3, e4⟩ := rnext_rput ht hfit hl
  have hlook : vlook (s.getD m .zero).fields (rput n x t) 0 = ((⟨n, x, 0, h, h + t.length⟩ : Rec), (q : Int), run, 0) := by
    unfold vlook
    rw [e1]
    simp only
    rw [if_neg (by simp), hn, if_neg (by omega), Int.toNat_natCast, ← hf]
    have e : (f.rep && knumber f.kind && decide (x = 2)) = run := hrun.symm
    rw [e]
    cases run with
    | true => rfl
    | false =>
      rcases hk with hk | ⟨hk1, hk2⟩
      · cases hk
      · rw [if_neg (by simp), if_neg (by rw [hk1, hk2]; simp)]
  refine vmsg_one hlook e2.symm ?_
  unfold vval
  simp only
  rw [if_neg (by omega), Int.toNat_natCast, ← hf, e3]
  cases run with
  | true => rw [if_pos rfl]; exact h1 rfl
  | false =>
    rw [if_neg (by simp)]
    by_cases h15 : f.kind = 15
    · rw [if_pos h15, if_pos (h2 rfl h15)]
    · rw [if_neg h15]
      by_cases h17 : f.kind = 17
      · rw [if_pos h17]
        obtain ⟨d', rfl, hd⟩ := h3 rfl h17
        rw [if_neg (by simp)]
        exact hd
      · rw [if_neg h17]
/-- a value's records are valid -/
theorem vmsg_encV {α : Type} {E : Int → α → List UInt8} {R : Int → α → Bool} {s : List Mes} {d m q : Nat} {f : Fld} {x : Val α} (hf : f = (s.getD m .zero).fields.getD q .zero) (hq : q < (s.getD m .zero).fields.length) (hn : fieldAt (s.getD m .zero).fields f.number = q) (hk : kright f.kind = true) (hnum : 1 ≤ f.number ∧ f.number ≤ 536870911)
    (hw : ∀ w ∈ x.words, w < 2 ^ 64) (hwl : x.words.length ≤ 1099511627776) (htl : ∀ t ∈ x.texts, t.length < 2 ^ 64) (hsl : ∀ y ∈ x.subs, (E f.of y).length < 2 ^ 64) (hfit : fitsB R f x = true)
    (hsub : ∀ y ∈ x.subs, ∃ d', d = d' + 1 ∧ (vmsg s d' f.of.toNat (E f.of y)).2 = 0) : (vmsg s d m (encV E f x)).2 = 0 := by
  obtain ⟨n, hnn⟩ : ∃ n : Nat, f.number = n := ⟨f.number.toNat, by omega⟩
  have htag : ∀ w : Nat, (w = 0 ∨ w = 1 ∨ w = 2 ∨ w = 5) → tagOk n w = true := fun w h => by unfold tagOk; simp; omega
  have hfc := (fits_cases hfit).2.2
  unfold encV
  by_cases hkn : knumber f.kind = true
  · have h17 : f.kind ≠ 17 := by intro e; rw [e] at hkn; exact absurd hkn (by decide)
    have h15 : f.kind ≠ 15 := by intro e; rw [e] at hkn; exact absurd hkn (by decide)
    rw [if_pos hkn, hnn]
    by_cases hr : f.rep = true
    · rw [if_pos hr]
      have hpl := kpack_le f.kind x.words hw
      exact vmsg_rput (x := 2) (run := true) hf hq (by rw [← hnn]; exact hn) (htag 2 (by omega)) (rfits2 _) (by omega) (by rw [hr, hkn]; rfl) (.inl rfl) (fun _ => (runCount_kpack hkn x.words hw).1) (fun e => by cases e) (fun e => by cases e)
    · rw [if_neg hr]
      have hw0 : x.words.getD 0 0 < 2 ^ 64 := by
        cases hx : x.words with
        | nil => simp
        | cons a r => simp; exact hw a (by rw [hx]; simp)
      obtain ⟨wn, hwn⟩ : ∃ wn : Nat, kwire f.kind = wn := ⟨_, rfl⟩
      have hwc := kwire_015 hkn
      have h1 := kput_fits hkn hw0
      rw [hwn] at h1 hwc ⊢
      have := kput_le f.kind hw0
      exact vmsg_rput (x := wn) (run := false) hf hq (by rw [← hnn]; exact hn) (htag wn (by omega)) h1 (by omega) (by
        have : decide (wn = 2) = false := by simp; omega
        rw [this]; simp) (.inr ⟨hk, hwn⟩) (fun e => by cases e) (fun _ e => absurd e h15) (fun _ e => absurd e h17)
  · have hkf : knumber f.kind = false := by simpa using hkn
    have hk2 : kwire f.kind = 2 := wire_two hk hkf
    rw [if_neg hkn, hnn]
    have hrun : false = (f.rep && knumber f.kind && decide (2 = 2)) := by rw [hkf]; simp
    rw [List.flatMap_def, List.flatMap_def]
    refine vmsg_app (vmsg_flat fun l hl => ?_) (vmsg_flat fun l hl => ?_)
    · obtain ⟨t, ht, rfl⟩ := List.mem_map.1 hl
      refine vmsg_rput (x := 2) (run := false) hf hq (by rw [← hnn]; exact hn) (htag 2 (by omega)) (rfits2 _) (htl t ht) hrun (.inr ⟨hk, hk2⟩) (fun e => by cases e) (fun _ e => ?_) (fun _ e => ?_)
      · rcases hfc with ⟨h, -⟩ | ⟨h, -⟩ | ⟨-, -, -, -, -, h⟩
        · rw [h] at hkf; cases hkf
        · omega
        · exact h e t ht
      · rcases hfc with ⟨h, -⟩ | ⟨-, -, h, -⟩ | ⟨-, h, -⟩
        · rw [h] at hkf; cases hkf
        · rw [h] at ht; simp at ht
        · exact absurd e h
    · obtain ⟨y, hy, rfl⟩ := List.mem_map.1 hl
      refine vmsg_rput (x := 2) (run := false) hf hq (by rw [← hnn]; exact hn) (htag 2 (by omega)) (rfits2 _) (hsl y hy) hrun (.inr ⟨hk, hk2⟩) (fun e => by cases e) (fun _ e => ?_) (fun _ _ => hsub y hy)
      rcases hfc with ⟨h, -⟩ | ⟨h, -⟩ | ⟨-, -, -, -, h, -⟩
      · rw [h] at hkf; cases hkf
      · omega
      · rw [h] at hy; simp at hy
theorem vmsg_strange {s : List Mes} {d m : Nat} {t : List UInt8} (h : strangeB (s.getD m .zero).fields t = true) : (vmsg s d m t).2 = 0 := by
  unfold strangeB at h
  simp only [Bool.and_eq_true, decide_eq_true_eq] at h
  obtain ⟨⟨h1, h2⟩, h3⟩ := h
  obtain ⟨r, hr⟩ : ∃ r, rnext t 0 = (r, 0) := ⟨(rnext t 0).1, Prod.ext rfl h1⟩
  rw [hr] at h2 h3
  simp only at h2 h3
  have hlook : vlook (s.getD m .zero).fields t 0 = (r, -1, false, 0) := by
    unfold vlook
    rw [hr]
    simp only
    rw [if_neg (by simp), if_pos h3]
  refine vmsg_one hlook h2 ?_
  unfold vval
  simp only
  rw [if_pos (by omega)]
/-- canonical bytes are valid -/
theorem vmsg_enc {w : World} {s : List Mes} (hs : sright s = true) : ∀ (d k m : Nat) (v : Value) (x : M (d + 1)), MsgAt (d + 1) w v x → mwt (d + 1) x ≤ 1099511627776 → m < s.length → rightB s (d + 1) (m : Int) x = true → depthM (d + 1) x ≤ k →
    (vmsg s k m (encM s (d + 1) (m : Int) x)).2 = 0 := by
  have step : ∀ (d k m : Nat) (v : Value) (x : M (d + 1)), MsgAt (d + 1) w v x → mwt (d + 1) x ≤ 1099511627776 → m < s.length → rightB s (d + 1) (m : Int) x = true →
      (∀ u ∈ M.vals x, ∀ y ∈ u.subs, ∀ o : Nat, rightB s d (o : Int) y = true → o < s.length → ∃ k', k = k' + 1 ∧ (vmsg s k' o (encM s d (o : Int) y)).2 = 0) → (vmsg s k m (encM s (d + 1) (m : Int) x)).2 = 0 := by
    intro d k m v x h hw hm hr hrec
    have hsn := sane hs h hw
    have hr' := hr
    unfold rightB at hr'
    rw [if_neg (by omega), Int.toNat_natCast, Bool.and_eq_true, List.all_eq_true] at hr'
    obtain ⟨hv, hu⟩ := hr'
    have hok := (valsOk_of hv).1
    have hN := schema_Nums hs m hm
    have henc : encM s (d + 1) (m : Int) x = ((M.vals x).map fun v => encV (encM s d) ((s.getD m .zero).fields.getD (qOf (s.getD m .zero).fields v).toNat .zero) v).flatten ++ (M.unk x).flatten := by
      show (M.vals x).flatMap _ ++ (M.unk x).flatMap id = _
      rw [Int.toNat_natCast, List.flatMap_def, List.flatMap_id]
      rfl
    rw [henc]
    refine vmsg_app (vmsg_flat fun l hl => ?_) (vmsg_flat fun t ht => vmsg_strange (hu t ht))
    obtain ⟨u, hum, rfl⟩ := List.mem_map.1 hl
    obtain ⟨h1, h2, h3, h4⟩ := hok.at' u hum
    obtain ⟨g1, g2, g3, g4⟩ := (hsn u hum).1
    have hq : (qOf (s.getD m .zero).fields u).toNat < (s.getD m .zero).fields.length := by omega
    have hkr := (sright_field hs m hm _ (getD_mem (s.getD m .zero).fields .zero hq)).1
    have hnum : 1 ≤ ((s.getD m .zero).fields.getD (qOf (s.getD m .zero).fields u).toNat .zero).number ∧ ((s.getD m .zero).fields.getD (qOf (s.getD m .zero).fields u).toNat .zero).number ≤ 536870911 := by
      have h5 := (schema_nums hs m hm _ hq).2
      unfold numOk at h5
      have := of_decide_eq_true h5
      omega
    have hof := of_range hs hm hq
    refine vmsg_encV rfl hq (hN.at hq) hkr hnum g1 g2 g3 (fun y hy => g4 y hy _) h4 fun y hy => ?_
    obtain ⟨o, ho⟩ : ∃ o : Nat, ((s.getD m .zero).fields.getD (qOf (s.getD m .zero).fields u).toNat .zero).of = o := ⟨_, (Int.toNat_of_nonneg hof.1).symm⟩
    have hR : rightB s d ((s.getD m .zero).fields.getD (qOf (s.getD m .zero).fields u).toNat .zero).of y = true := by
      rcases (fits_cases h4).2.2 with ⟨-, -, e, -⟩ | ⟨-, -, -, e⟩ | ⟨-, -, -, -, e, -⟩
      · rw [e] at hy; simp at hy
      · exact e y hy
      · rw [e] at hy; simp at hy
    rw [ho] at hR hof ⊢
    rw [Int.toNat_natCast]
    exact hrec u hum y hy o hR (by omega)
  intro d
  induction d with
  | zero =>
    intro k m v x h hw hm hr _
    exact step 0 k m v x h hw hm hr fun u _ y _ => Empty.elim y
  | succ d ih =>
    intro k m v x h hw hm hr hk
    refine step (d + 1) k m v x h hw hm hr fun u hu y hy o hR ho => ?_
    have h1 := depth_sub hu hy
    obtain ⟨g1, v', g2⟩ := (sane hs h hw u hu).2 y hy
    obtain ⟨k', rfl⟩ : ∃ k', k = k' + 1 := ⟨k - 1, by omega⟩
    exact ⟨k', rfl, ih k' o v' y g2 g1 ho hR (by omega)⟩
end Go.Proofs.YtbhiddafbpingaaGreat
namespace Go.Proofs.YtbhiddafbpingaaGreat
open Go.RowKit
def vsize (x : VW) : Nat := x.r.to - x.r.start
def vsum (l : List VW) : Nat := (l.map vsize).sum
/-- a view's value is shorter than its record -/
def Thin (x : VW) : Prop := 1 + (x.r.to - x.r.at') ≤ vsize x
theorem vall_sum (fs : List Fld) (l : List UInt8) : ∀ (n i : Nat), i ≤ l.length → vsum (vallGo fs l n i).1 + i ≤ l.length ∧ ∀ x ∈ (vallGo fs l n i).1, Thin x
  | 0, i, hi => by simp [vallGo, vsum]; omega
  | n + 1, i, hi => by
    rw [vallGo]
    by_cases h : l.length ≤ i
    · rw [if_pos h]; simp [vsum]; omega
    rw [if_neg h]
    rcases vlook_cases fs l i with ⟨c, hc, e, -⟩ | ⟨r, h1, h2, h3, h4, -, hcase⟩
    · rw [e, if_pos hc]; simp [vsum]; omega
    · obtain ⟨k, run, e⟩ : ∃ k run, vlook fs l i = (r, k, run, 0) := by
        rcases hcase with e | ⟨k, run, -, e, -⟩
        · exact ⟨_, _, e⟩
        · exact ⟨_, _, e⟩
      rw [e, if_neg (by simp)]
      simp only
      obtain ⟨g1, g2⟩ := vall_sum fs l n r.to h4
      split
      · simp [vsum]; omega
      · refine ⟨?_, fun x hx => ?_⟩
        · unfold vsum at g1 ⊢
          rw [List.map_cons, List.sum_cons]
          have : vsize ⟨r, k, run⟩ = r.to - r.start := rfl
          omega
        · rcases List.mem_cons.1 hx with rfl | hx
          · unfold Thin vsize; simp only; omega
          · exact g2 x hx
theorem vsum_app (a b : List VW) : vsum (a ++ b) = vsum a + vsum b := by unfold vsum; rw [List.map_append, List.sum_append]
/-- a field's records, and the unknown ones, are no more than all -/
theorem vsum_split : ∀ (all : List VW) (ords : List Int), ords.Nodup → (∀ i ∈ ords, 0 ≤ i) → (ords.map fun i => vsum (viewsOf all i)).sum + vsum (all.filter fun x => decide (x.k < 0)) ≤ vsum all
  | [], ords, _, _ => by
    have : (ords.map fun i => vsum (viewsOf [] i)).sum = 0 := by
      rw [List.sum_eq_zero_iff_forall_eq_nat]
      intro y hy
      obtain ⟨i, -, rfl⟩ := List.mem_map.1 hy
      rfl
    rw [this]; simp [vsum]
  | x :: r, ords, hn, h0 => by
    have ih := vsum_split r ords hn h0
    have hx : (ords.map fun i => vsum (viewsOf (x :: r) i)).sum ≤ (ords.map fun i => vsum (viewsOf r i)).sum + (if x.k ∈ ords then vsize x else 0) := by
      clear ih h0
      induction ords with
      | nil => simp
      | cons i t iht =>
        rw [List.nodup_cons] at hn
        have := iht hn.2
        have hv : vsum (viewsOf (x :: r) i) = (if x.k = i then vsize x else 0) + vsum (viewsOf r i) := by
          unfold viewsOf
          rw [List.filter_cons]
          by_cases he : x.k = i
          · rw [if_pos (by simpa using he), if_pos he]; unfold vsum; rw [List.map_cons, List.sum_cons]
          · rw [if_neg (by simpa using he), if_neg he, Nat.zero_add]
        rw [List.map_cons, List.sum_cons, List.map_cons, List.sum_cons, hv]
        by_cases he : x.k = i
        · have hnt : x.k ∉ t := by rw [he]; exact hn.1
          rw [if_neg hnt] at this
          rw [if_pos he, if_pos (by simp [he])]
          omega
        · rw [if_neg he]
          by_cases ht : x.k ∈ t
          · rw [if_pos ht] at this
            rw [if_pos (by simp [ht])]; omega
          · rw [if_neg ht] at this
            rw [if_neg (by simp [he, ht])]; omega
    have hs : vsum (x :: r) = vsize x + vsum r := by unfold vsum; rw [List.map_cons, List.sum_cons]
    rw [List.filter_cons]
    by_cases hk : x.k < 0
    · rw [if_pos (by simpa using hk)]
      have hno : x.k ∉ ords := fun hm => by have := h0 _ hm; omega
      rw [if_neg hno] at hx
      have : vsum (x :: r.filter fun x => decide (x.k < 0)) = vsize x + vsum (r.filter fun x => decide (x.k < 0)) := by unfold vsum; rw [List.map_cons, List.sum_cons]
      omega
    · rw [if_neg (by simpa using hk)]
      by_cases hm : x.k ∈ ords
      · rw [if_pos hm] at hx; omega
      · rw [if_neg hm] at hx; omega
theorem vbytes_len (l : List UInt8) (x : VW) : (vbytes l x).length ≤ x.r.to - x.r.at' := by unfold vbytes part; rw [List.length_take]; omega
theorem flat_sum {α : Type} (g : VW → List α) (W : List α → Nat) (h0 : W [] = 0) (ha : ∀ a b, W (a ++ b) = W a + W b) : ∀ (xs : List VW), (∀ x ∈ xs, W (g x) ≤ vsize x) → W (xs.flatMap g) ≤ vsum xs
  | [], _ => by rw [List.flatMap_nil, h0]; exact Nat.zero_le _
  | x :: r, h => by
    have ih := flat_sum g W h0 ha r fun y hy => h y (by simp [hy])
    have h1 := h x (by simp)
    rw [List.flatMap_cons, ha]
    unfold vsum at ih ⊢
    rw [List.map_cons, List.sum_cons]
    omega
theorem twt_nil : twt [] = 0 := rfl
theorem twt_app (a b : List (List UInt8)) : twt (a ++ b) = twt a + twt b := by unfold twt; rw [List.map_append, List.sum_append]
theorem counts_sum (f : Fld) (xs : List VW) : vsum (counts f xs) ≤ vsum xs := by
  unfold counts
  split
  · exact Nat.le_refl _
  · unfold lastOf
    conv => rhs; rw [← List.take_append_drop (xs.length - 1) xs, vsum_app]
    omega
theorem piece_words {f : Fld} {l : List UInt8} {x : VW} (h : Thin x) : (pieceW f l x).length ≤ vsize x := by
  unfold Thin at h
  unfold pieceW
  split
  · unfold runWords
    split
    · have h1 := rpieces_len (kwire f.kind) _ (vbytes l x) (Nat.le_refl _)
      have h2 := vbytes_len l x
      simp only [kwords, List.length_map]
      omega
    · simp
  · split
    · simp; omega
    · simp
theorem piece_texts {f : Fld} {l : List UInt8} {x : VW} (h : Thin x) : twt (pieceB f l x) ≤ vsize x := by
  unfold Thin at h
  unfold pieceB
  split
  · rw [twt_nil]; omega
  · have h2 := vbytes_len l x
    simp [twt]; omega
theorem vsum_pos {xs : List VW} (ht : ∀ x ∈ xs, Thin x) : xs.length ≤ vsum xs := by
  induction xs with
  | nil => simp
  | cons x r ih =>
    have h1 := ht x (by simp)
    have h2 := ih fun y hy => ht y (by simp [hy])
    unfold Thin at h1
    unfold vsum at h2 ⊢
    rw [List.map_cons, List.sum_cons, List.length_cons]
    omega
/-- a field's value weighs at most four times its records -/
theorem fieldV_weight {α : Type} {F : α → Nat} {sub : Int → List UInt8 → List α} {f : Fld} {l : List UInt8} {xs : List VW} (hrun : f.kind = 17 → ∀ x ∈ xs, x.run = false) (ht : ∀ x ∈ xs, Thin x)
    (hs : ∀ b, ((sub f.of b).map F).sum ≤ 1 + 4 * b.length) (hm : 0 < many (fieldV sub f l xs)) : vwt F (fieldV sub f l xs) ≤ 4 * vsum xs := by
  have hne : xs ≠ [] := by
    rintro rfl
    unfold many fieldV counts lastOf at hm
    simp at hm
  have hpos := vsum_pos ht
  have hl : 0 < xs.length := List.length_pos_iff.2 hne
  have hc := counts_sum f xs
  have htc : ∀ x ∈ counts f xs, Thin x := fun x hx => ht x (counts_sub f xs hx)
  have hw := flat_sum (pieceW f l) List.length rfl (fun a b => List.length_append) (counts f xs) fun x hx => piece_words (htc x hx)
  have hx := flat_sum (pieceB f l) twt twt_nil twt_app (counts f xs) fun x hx => piece_texts (htc x hx)
  unfold vwt fieldV
  simp only
  by_cases h17 : f.kind = 17
  · rw [if_pos h17, if_pos h17, twt_nil]
    have hw0 : ((counts f xs).flatMap (pieceW f l)) = [] := by
      refine flat_nil _ _ fun x hx => ?_
      unfold pieceW
      rw [if_neg (by rw [hrun h17 x (counts_sub f xs hx)]; decide), if_neg (by rw [h17]; decide)]
    rw [hw0]
    have hsum : ∀ ys : List VW, (∀ x ∈ ys, Thin x) → ((ys.flatMap fun x => sub f.of (vbytes l x)).map F).sum + ys.length ≤ 4 * vsum ys := by
      intro ys
      induction ys with
      | nil => simp [vsum]
      | cons x r ih =>
        intro hy
        have h1 := hy x (by simp)
        have h2 := ih fun y h => hy y (by simp [h])
        have h3 := hs (vbytes l x)
        have h4 := vbytes_len l x
        unfold Thin at h1
        unfold vsum at h2 ⊢
        rw [List.flatMap_cons, List.map_append, List.sum_append, List.length_cons, List.map_cons, List.sum_cons]
        omega
    have hlen : ∀ ys : List VW, (∀ x ∈ ys, Thin x) → (ys.flatMap (vbytes l)).length + ys.length ≤ vsum ys := by
      intro ys
      induction ys with
      | nil => simp [vsum]
      | cons x r ih =>
        intro hy
        have h1 := hy x (by simp)
        have h2 := ih fun y h => hy y (by simp [h])
        have h4 := vbytes_len l x
        unfold Thin at h1
        unfold vsum at h2 ⊢
        rw [List.flatMap_cons, List.length_append, List.length_cons, List.map_cons, List.sum_cons]
        omega
    split
    · have := hsum xs ht
      simp only [List.length_nil]; omega
    · have h1 := hs (xs.flatMap (vbytes l))
      have h2 := hlen xs ht
      simp only [List.length_nil]; omega
  · rw [if_neg h17, if_neg h17]
    have hboth : ((counts f xs).flatMap (pieceW f l)).length + twt ((counts f xs).flatMap (pieceB f l)) ≤ 2 * vsum xs := by omega
    simp only [List.map_nil, List.sum_nil]
    omega
theorem sortedF_nodup (fs : List Fld) : (sortedF fs).Nodup := by
  have h := (sortF_ok fs fs.length).2
  refine List.Pairwise.imp (fun {a b} hab => ?_) h
  rintro rfl
  exact Ahead.asymm _ _ hab hab
theorem sum_filter_le {α : Type} (F G : α → Nat) (p : α → Bool) : ∀ (l : List α), (∀ x ∈ l, p x = true → F x ≤ G x) → ((l.filter p).map F).sum ≤ (l.map G).sum
  | [], _ => by simp
  | x :: r, h => by
    have ih := sum_filter_le F G p r fun y hy => h y (by simp [hy])
    rw [List.filter_cons, List.map_cons, List.sum_cons]
    by_cases hp : p x = true
    · rw [if_pos hp, List.map_cons, List.sum_cons]
      have := h x (by simp) hp
      omega
    · rw [if_neg hp]; omega
theorem vall_run (fs : List Fld) (l : List UInt8) : ∀ (n i : Nat), ∀ x ∈ (vallGo fs l n i).1, ∀ k : Nat, x.k = k → x.run = true → knumber (fs.getD k .zero).kind = true
  | 0, i => by simp [vallGo]
  | n + 1, i => by
    rw [vallGo]
    by_cases h : l.length ≤ i
    · rw [if_pos h]; simp
    rw [if_neg h]
    by_cases hc : (vlook fs l i).2.2.2 = 0
    · rw [if_neg (by omega)]
      have ih := vall_run fs l n (vlook fs l i).1.to
      simp only
      split
      · simp
      · intro x hx
        rcases List.mem_cons.1 hx with rfl | hx
        · intro k hk hr
          simp only at hk hr
          rcases vlook_cases fs l i with ⟨c, hc', e, -⟩ | ⟨r, h1, h2, h3, h4, -, e | ⟨k', run, -, e, -, h6, -⟩⟩
          · rw [e] at hc; exact absurd hc hc'
          · rw [e] at hr; simp at hr
          · rw [e] at hk hr
            simp only at hk hr
            obtain rfl : k' = k := by omega
            exact (h6 hr).2.1
        · exact ih x hx
    · rw [if_pos hc]; simp
theorem sum_four (g : Int → Nat) : ∀ (l : List Int), (l.map fun i => 4 * g i).sum = 4 * (l.map g).sum
  | [] => by simp
  | x :: r => by rw [List.map_cons, List.sum_cons, sum_four g r, List.map_cons, List.sum_cons]; omega
theorem msgOf_weight {α : Type} (F : α → Nat) {sub : Int → List UInt8 → List α} (fs : List Fld) (l : List UInt8) (hs : ∀ o b, ((sub o b).map F).sum ≤ 1 + 4 * b.length) :
    twt (msgOf sub fs l).unk + ((msgOf sub fs l).vals.map (vwt F)).sum ≤ 4 * l.length := by
  obtain ⟨h1, h2⟩ := vall_sum fs l l.length 0 (Nat.zero_le _)
  have h3 := vall_run fs l l.length 0
  have h4 := vsum_split (vall fs l).1 (sortedF fs) (sortedF_nodup fs) (fun i hi => (sortedF_mem hi).1)
  have hall : vsum (vall fs l).1 ≤ l.length := by unfold vall; omega
  have hunk : twt (msgOf sub fs l).unk ≤ 2 * vsum ((vall fs l).1.filter fun x => decide (x.k < 0)) := by
    unfold msgOf twt vsum
    simp only [List.map_map]
    have : ∀ (ys : List VW), (∀ x ∈ ys, Thin x) → (ys.map ((fun t => 1 + t.length) ∘ fun x => part l x.r.start x.r.to)).sum ≤ 2 * (ys.map vsize).sum := by
      intro ys
      induction ys with
      | nil => simp
      | cons x r ih =>
        intro hy
        have g1 := hy x (by simp)
        have g2 := ih fun y h => hy y (by simp [h])
        have g3 : (part l x.r.start x.r.to).length ≤ vsize x := by unfold part vsize; rw [List.length_take]; omega
        unfold Thin at g1
        rw [List.map_cons, List.sum_cons, List.map_cons, List.sum_cons]
        simp only [Function.comp]
        omega
    exact this _ fun x hx => h2 x (List.mem_filter.1 hx).1
  have hval : ((msgOf sub fs l).vals.map (vwt F)).sum ≤ 4 * ((sortedF fs).map fun i => vsum (viewsOf (vall fs l).1 i)).sum := by
    rw [← sum_four]
    unfold msgOf
    simp only
    rw [List.filter_map, List.map_map]
    refine sum_filter_le _ _ _ _ fun i hi hp => ?_
    simp only [Function.comp] at hp ⊢
    have hb := sortedF_mem hi
    obtain ⟨q, rfl⟩ : ∃ q : Nat, i = q := ⟨i.toNat, by omega⟩
    simp only [Int.toNat_natCast] at hp ⊢
    refine fieldV_weight (fun h17 x hx => ?_) (fun x hx => h2 x (viewsOf_mem hx).1) (fun b => hs _ b) (of_decide_eq_true hp)
    cases hr : x.run with
    | false => rfl
    | true =>
      have := h3 x (viewsOf_mem hx).1 q (viewsOf_mem hx).2 hr
      rw [h17] at this
      simp [knumber] at this
  omega
/-- the meaning of bytes weighs at most four times as much -/
theorem tof_weight (s : List Mes) : ∀ (d m : Nat) (l : List UInt8), mwt (d + 1) (tof s d m l) ≤ 1 + 4 * l.length
  | 0, m, l => by
    have := msgOf_weight (mwt 0) (sub := tsub s 0) (s.getD m .zero).fields l (fun o b => by show ([] : List Nat).sum ≤ _; simp)
    rw [tof_msg]
    show 1 + twt (msgOf (tsub s 0) (s.getD m .zero).fields l).unk + ((msgOf (tsub s 0) (s.getD m .zero).fields l).vals.map (vwt (mwt 0))).sum ≤ _
    omega
  | d + 1, m, l => by
    have := msgOf_weight (mwt (d + 1)) (sub := tsub s (d + 1)) (s.getD m .zero).fields l (fun o b => by
      have := tof_weight s d o.toNat b
      show ([mwt (d + 1) (tof s d o.toNat b)]).sum ≤ _
      simp; omega)
    rw [tof_msg]
    show 1 + twt (msgOf (tsub s (d + 1)) (s.getD m .zero).fields l).unk + ((msgOf (tsub s (d + 1)) (s.getD m .zero).fields l).vals.map (vwt (mwt (d + 1)))).sum ≤ _
    omega
end Go.Proofs.YtbhiddafbpingaaGreat
namespace Go.Proofs.YtbhiddafbpingaaGreat
open Go.RowKit
set_option maxRecDepth 100000 in
set_option maxHeartbeats 4000000 in
theorem bytes_Equal {w : World} {v u : Value} {l m : List UInt8} (h : Bytes w v l) (hu : Bytes w u m) :
    Calls Tryz.prog 47 #[v, u] w fun e w' => e = .returned (.bool (decide (l = m))) ∧ w = w' := by
  have s1 := h.str
  have s2 := hu.str
  obtain ⟨z, HZ⟩ : ∃ z, Hid (z = decide (l = m)) := ⟨_, rfl⟩
  rw [← HZ.out]
  obtain ⟨A, HA⟩ : ∃ A : ByteArray, Hid (A = ⟨l.toArray⟩) := ⟨_, rfl⟩
  obtain ⟨B, HB⟩ : ∃ A : ByteArray, Hid (A = ⟨m.toArray⟩) := ⟨_, rfl⟩
  rw [← HA.out] at s1
  rw [← HB.out] at s2
  obtain ⟨-, a, cap, rfl, -⟩ := h.open
  obtain ⟨-, a2, cap2, rfl, -⟩ := hu.open
  generalize l.length = n1 at *
  generalize m.length = n2 at *
  have hz : (A.toList == B.toList) = z := by
    rw [HZ.out, HA.out, HB.out, Bool.eq_iff_iff]
    simp [ByteArray.toList_eq]
  clear h hu
  go_enter Tryz.func47, Tryz.ntmps47
  go_wp2_with fail
  go_ret
  exact ⟨by simp, rfl⟩
end Go.Proofs.YtbhiddafbpingaaGreat
namespace Go.Proofs.YtbhiddafbpingaaGreat
open Go.RowKit
/-- tree.of of valid bytes, at most d deep: its result lies in new memory -/
def TOfOk (w0 : World) (sv : Value) (s : List Mes) (d : Nat) : Prop := ∀ (m : Nat) (w : World) (v : Value) (l : List UInt8), m < s.length → Below w0.heap.size w0 w → Bytes w v l → l.length ≤ 1099511627776 → (vmsg s d m l).2 = 0 →
  Calls Tryz.prog 53 #[sv, .int .i64 (m : Int), v] w fun e w' => ∃ v', e = .returned v' ∧ Below w.heap.size w w' ∧ Apart 0 w.heap.size w' fun w2 => MsgAt (d + 1) w2 v' (tof s d m l)
end Go.Proofs.YtbhiddafbpingaaGreat
