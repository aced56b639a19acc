/- Parts of a proof: texts of the author, merged. No condition of their own. -/
import Derived.Test.YtbdeclkccchnoaaGreatZ05
import Derived.Test.YtbdeclkccchnoaaGreatZ09
import Derived.Test.YtbdeclkccchnoaaGreatZ23
import Derived.Test.YtbdeclkccchnoaaGreatZ24
namespace Go.Proofs.YtbdeclkccchnoaaGreat
open Go.RowKit
theorem vmsg_one {s : List Mes} {d m : Nat} {t : List UInt8} {r : Rec} {k : Int} {run : Bool} (hlook : vlook (s.getD m .zero).fields t 0 = (r, k, run, 0)) (hto : r.to = t.length)
    (hv : (vval (vrec s d) (decide (d = 0)) (s.getD m .zero).fields t (r, k, run, 0)).2 = 0) : (vmsg s d m t).2 = 0 := by
  rw [vmsg_from, vfrom_at]
  by_cases h0 : t.length ≤ 0
  · rw [if_pos h0]
  rw [if_neg h0, hlook, if_neg (by simp), if_neg (by rw [hv]; simp)]
  simp only
  rw [hto, vfrom_at, if_pos (Nat.le_refl _)]
theorem vmsg_rput {s : List Mes} {d m q n x : Nat} {f : Fld} (hf : f = (s.getD m .zero).fields.getD q .zero) (_hq : q < (s.getD m .zero).fields.length) (hn : fieldAt (s.getD m .zero).fields (n : Int) = q) (ht : tagOk n x = true) {t : List UInt8} (hfit : rfits (x : Int) t = true) (hl : t.length < 2 ^ 64) {run : Bool}
    (hrun : run = (f.rep && knumber f.kind && decide (x = 2))) (hk : run = true ∨ kright f.kind = true ∧ kwire f.kind = x)
    (h1 : run = true → (runCount (kwire f.kind) t).2 = 0) (h2 : run = false → f.kind = 15 → ufirst t = t.length) (h3 : run = false → f.kind = 17 → ∃ d', d = d' + 1 ∧ (vmsg s d' f.of.toNat t).2 = 0) :
    (vmsg s d m (rput n x t)).2 = 0 := by
  obtain ⟨h, e1, e2, e3, e4⟩ := rnext_rput ht hfit hl
  have hlook : vlook (s.getD m .zero).fields (rput n x t) 0 = ((⟨n, x, 0, h, h + t.length⟩ : Rec), (q : Int), run, 0) := by
    unfold vlook
    rw [e1]
    simp only
    rw [if_neg (by simp), hn, if_neg (by omega), Int.toNat_natCast, ← hf]
    have e : (f.rep && knumber f.kind && decide (x = 2)) = run := hrun.symm
    rw [e]
    cases run with
    | true => rfl
    | false =>
      rcases hk with hk | ⟨hk1, hk2⟩
      · cases hk
      · rw [if_neg (by simp), if_neg (by rw [hk1, hk2]; simp)]
  refine vmsg_one hlook e2.symm ?_
  unfold vval
  simp only
  rw [if_neg (by omega), Int.toNat_natCast, ← hf, e3]
  cases run with
  | true => rw [if_pos rfl]; exact h1 rfl
  | false =>
    rw [if_neg (by simp)]
    by_cases h15 : f.kind = 15
    · rw [if_pos h15, if_pos (h2 rfl h15)]
    · rw [if_neg h15]
      by_cases h17 : f.kind = 17
      · rw [if_pos h17]
        obtain ⟨d', rfl, hd⟩ := h3 rfl h17
        rw [if_neg (by simp)]
        exact hd
      · rw [if_neg h17]
theorem vmsg_encV {α : Type} {E : Int → α → List UInt8} {R : Int → α → Bool} {s : List Mes} {d m q : Nat} {f : Fld} {x : Val α} (hf : f = (s.getD m .zero).fields.getD q .zero) (hq : q < (s.getD m .zero).fields.length) (hn : fieldAt (s.getD m .zero).fields f.number = q) (hk : kright f.kind = true) (hnum : 1 ≤ f.number ∧ f.number ≤ 536870911)
    (hw : ∀ w ∈ x.words, w < 2 ^ 64) (hwl : x.words.length ≤ 1099511627776) (htl : ∀ t ∈ x.texts, t.length < 2 ^ 64) (hsl : ∀ y ∈ x.subs, (E f.of y).length < 2 ^ 64) (hfit : fitsB R f x = true)
    (hsub : ∀ y ∈ x.subs, ∃ d', d = d' + 1 ∧ (vmsg s d' f.of.toNat (E f.of y)).2 = 0) : (vmsg s d m (encV E f x)).2 = 0 := by
  obtain ⟨n, hnn⟩ : ∃ n : Nat, f.number = n := ⟨f.number.toNat, by omega⟩
  have htag : ∀ w : Nat, (w = 0 ∨ w = 1 ∨ w = 2 ∨ w = 5) → tagOk n w = true := fun w h => by unfold tagOk; simp; omega
  have hfc := (fits_cases hfit).2.2
  unfold encV
  by_cases hkn : knumber f.kind = true
  · have h17 : f.kind ≠ 17 := by intro e; rw [e] at hkn; exact absurd hkn (by decide)
    have h15 : f.kind ≠ 15 := by intro e; rw [e] at hkn; exact absurd hkn (by decide)
    rw [if_pos hkn, hnn]
    by_cases hr : f.rep = true
    · rw [if_pos hr]
      have hpl := kpack_le f.kind x.words hw
      exact vmsg_rput (x := 2) (run := true) hf hq (by rw [← hnn]; exact hn) (htag 2 (by omega)) (rfits2 _) (by omega) (by rw [hr, hkn]; rfl) (.inl rfl) (fun _ => (runCount_kpack hkn x.words hw).1) (fun e => by cases e) (fun e => by cases e)
    · rw [if_neg hr]
      have hw0 : x.words.getD 0 0 < 2 ^ 64 := by
        cases hx : x.words with
        | nil => simp
        | cons a r => simp; exact hw a (by rw [hx]; simp)
      obtain ⟨wn, hwn⟩ : ∃ wn : Nat, kwire f.kind = wn := ⟨_, rfl⟩
      have hwc := kwire_015 hkn
      have h1 := kput_fits hkn hw0
      rw [hwn] at h1 hwc ⊢
      have := kput_le f.kind hw0
      exact vmsg_rput (x := wn) (run := false) hf hq (by rw [← hnn]; exact hn) (htag wn (by omega)) h1 (by omega) (by
        have : decide (wn = 2) = false := by simp; omega
        rw [this]; simp) (.inr ⟨hk, hwn⟩) (fun e => by cases e) (fun _ e => absurd e h15) (fun _ e => absurd e h17)
  · have hkf : knumber f.kind = false := by simpa using hkn
    have hk2 : kwire f.kind = 2 := wire_two hk hkf
    rw [if_neg hkn, hnn]
    have hrun : false = (f.rep && knumber f.kind && decide (2 = 2)) := by rw [hkf]; simp
    rw [List.flatMap_def, List.flatMap_def]
    refine vmsg_app (vmsg_flat fun l hl => ?_) (vmsg_flat fun l hl => ?_)
    · obtain ⟨t, ht, rfl⟩ := List.mem_map.1 hl
      refine vmsg_rput (x := 2) (run := false) hf hq (by rw [← hnn]; exact hn) (htag 2 (by omega)) (rfits2 _) (htl t ht) hrun (.inr ⟨hk, hk2⟩) (fun e => by cases e) (fun _ e => ?_) (fun _ e => ?_)
      · rcases hfc with ⟨h, -⟩ | ⟨h, -⟩ | ⟨-, -, -, -, -, h⟩
        · rw [h] at hkf; cases hkf
        · omega
        · exact h e t ht
      · rcases hfc with ⟨h, -⟩ | ⟨-, -, h, -⟩ | ⟨-, h, -⟩
        · rw [h] at hkf; cases hkf
        · rw [h] at ht; simp at ht
        · exact absurd e h
    · obtain ⟨y, hy, rfl⟩ := List.mem_map.1 hl
      refine vmsg_rput (x := 2) (run := false) hf hq (by rw [← hnn]; exact hn) (htag 2 (by omega)) (rfits2 _) (hsl y hy) hrun (.inr ⟨hk, hk2⟩) (fun e => by cases e) (fun _ e => ?_) (fun _ _ => hsub y hy)
      rcases hfc with ⟨h, -⟩ | ⟨h, -⟩ | ⟨-, -, -, -, h, -⟩
      · rw [h] at hkf; cases hkf
      · omega
      · rw [h] at hy; simp at hy
theorem vmsg_strange {s : List Mes} {d m : Nat} {t : List UInt8} (h : strangeB (s.getD m .zero).fields t = true) : (vmsg s d m t).2 = 0 := by
  unfold strangeB at h
  simp only [Bool.and_eq_true, decide_eq_true_eq] at h
  obtain ⟨⟨h1, h2⟩, h3⟩ := h
  obtain ⟨r, hr⟩ : ∃ r, rnext t 0 = (r, 0) := ⟨(rnext t 0).1, Prod.ext rfl h1⟩
  rw [hr] at h2 h3
  simp only at h2 h3
  have hlook : vlook (s.getD m .zero).fields t 0 = (r, -1, false, 0) := by
    unfold vlook
    rw [hr]
    simp only
    rw [if_neg (by simp), if_pos h3]
  refine vmsg_one hlook h2 ?_
  unfold vval
  simp only
  rw [if_pos (by omega)]
theorem vmsg_enc {w : World} {s : List Mes} (hs : sright s = true) : ∀ (d k m : Nat) (v : Value) (x : M (d + 1)), MsgAt (d + 1) w v x → mwt (d + 1) x ≤ 1099511627776 → m < s.length → rightB s (d + 1) (m : Int) x = true → depthM (d + 1) x ≤ k →
    (vmsg s k m (encM s (d + 1) (m : Int) x)).2 = 0 := by
  have step : ∀ (d k m : Nat) (v : Value) (x : M (d + 1)), MsgAt (d + 1) w v x → mwt (d + 1) x ≤ 1099511627776 → m < s.length → rightB s (d + 1) (m : Int) x = true →
      (∀ u ∈ M.vals x, ∀ y ∈ u.subs, ∀ o : Nat, rightB s d (o : Int) y = true → o < s.length → ∃ k', k = k' + 1 ∧ (vmsg s k' o (encM s d (o : Int) y)).2 = 0) → (vmsg s k m (encM s (d + 1) (m : Int) x)).2 = 0 := by
    intro d k m v x h hw hm hr hrec
    have hsn := sane hs h hw
    have hr' := hr
    unfold rightB at hr'
    rw [if_neg (by omega), Int.toNat_natCast, Bool.and_eq_true, List.all_eq_true] at hr'
    obtain ⟨hv, hu⟩ := hr'
    have hok := (valsOk_of hv).1
    have hN := schema_Nums hs m hm
    have henc : encM s (d + 1) (m : Int) x = ((M.vals x).map fun v => encV (encM s d) ((s.getD m .zero).fields.getD (qOf (s.getD m .zero).fields v).toNat .zero) v).flatten ++ (M.unk x).flatten := by
      show (M.vals x).flatMap _ ++ (M.unk x).flatMap id = _
      rw [Int.toNat_natCast, List.flatMap_def, List.flatMap_id]
      rfl
    rw [henc]
    refine vmsg_app (vmsg_flat fun l hl => ?_) (vmsg_flat fun t ht => vmsg_strange (hu t ht))
    obtain ⟨u, hum, rfl⟩ := List.mem_map.1 hl
    obtain ⟨h1, h2, h3, h4⟩ := hok.at' u hum
    obtain ⟨g1, g2, g3, g4⟩ := (hsn u hum).1
    have hq : (qOf (s.getD m .zero).fields u).toNat < (s.getD m .zero).fields.length := by omega
    have hkr := (sright_field hs m hm _ (getD_mem (s.getD m .zero).fields .zero hq)).1
    have hnum : 1 ≤ ((s.getD m .zero).fields.getD (qOf (s.getD m .zero).fields u).toNat .zero).number ∧ ((s.getD m .zero).fields.getD (qOf (s.getD m .zero).fields u).toNat .zero).number ≤ 536870911 := by
      have h5 := (schema_nums hs m hm _ hq).2
      unfold numOk at h5
      have := of_decide_eq_true h5
      omega
    have hof := of_range hs hm hq
    refine vmsg_encV rfl hq (hN.at hq) hkr hnum g1 g2 g3 (fun y hy => g4 y hy _) h4 fun y hy => ?_
    obtain ⟨o, ho⟩ : ∃ o : Nat, ((s.getD m .zero).fields.getD (qOf (s.getD m .zero).fields u).toNat .zero).of = o := ⟨_, (Int.toNat_of_nonneg hof.1).symm⟩
    have hR : rightB s d ((s.getD m .zero).fields.getD (qOf (s.getD m .zero).fields u).toNat .zero).of y = true := by
      rcases (fits_cases h4).2.2 with ⟨-, -, e, -⟩ | ⟨-, -, -, e⟩ | ⟨-, -, -, -, e, -⟩
      · rw [e] at hy; simp at hy
      · exact e y hy
      · rw [e] at hy; simp at hy
    rw [ho] at hR hof ⊢
    rw [Int.toNat_natCast]
    exact hrec u hum y hy o hR (by omega)
  intro d
  induction d with
  | zero =>
    intro k m v x h hw hm hr _
    exact step 0 k m v x h hw hm hr fun u _ y _ => Empty.elim y
  | succ d ih =>
    intro k m v x h hw hm hr hk
    refine step (d + 1) k m v x h hw hm hr fun u hu y hy o hR ho => ?_
    have h1 := depth_sub hu hy
    obtain ⟨g1, v', g2⟩ := (sane hs h hw u hu).2 y hy
    obtain ⟨k', rfl⟩ : ∃ k', k = k' + 1 := ⟨k - 1, by omega⟩
    exact ⟨k', rfl, ih k' o v' y g2 g1 ho hR (by omega)⟩
end Go.Proofs.YtbdeclkccchnoaaGreat
namespace Go.Proofs.YtbdeclkccchnoaaGreat
open Go.RowKit
end Go.Proofs.YtbdeclkccchnoaaGreat
namespace Go.Proofs.YtbdeclkccchnoaaGreat
open Go.RowKit
set_option maxRecDepth 100000 in
set_option maxHeartbeats 4000000 in
theorem equal_str {w : World} {v u : Value} {l m : List (List UInt8)} (h : StrsAt w v l) (hu : StrsAt w u m) :
    Calls Tryz.prog 23 #[v, u] w fun e w' => e = .returned (.bool (decide (l = m))) ∧ Drew w w' := by
  obtain ⟨-, a, c, rfl, -, hat⟩ := h.open
  obtain ⟨-, a2, c2, rfl, -, hbt⟩ := hu.open
  obtain ⟨n, HN⟩ : ∃ n, Hid (n = l.length) := ⟨_, rfl⟩
  obtain ⟨n2, HN2⟩ : ∃ n, Hid (n = m.length) := ⟨_, rfl⟩
  have hlen : n ≤ 140737488355328 := by rw [HN.out]; exact h.open.1
  have hlen2 : n2 ≤ 140737488355328 := by rw [HN2.out]; exact hu.open.1
  rw [← HN.out, ← HN2.out]
  obtain ⟨z, HZ⟩ : ∃ z, Hid (z = decide (l = m)) := ⟨_, rfl⟩
  rw [← HZ.out]
  have HAT := hid hat
  have HBT := hid hbt
  clear hat hbt h hu
  by_cases hnn : n = n2
  · subst hnn
    go_enter Tryz.func23, Tryz.ntmps23
    go_wp2_with fail
    go_loopw [13] (fun v8 wr => ∃ k : Nat, k ≤ n ∧ v8 = .int .i64 k ∧ Hid (decide (l.drop k = m.drop k) = z) ∧ (∃ kw, wr = w.drewN kw)) (fun v8 _ => n - (intOf v8).toNat)
    case atStart => exact ⟨0, by omega, rfl, by rw [HZ.out]; rfl, 0, rfl⟩
    case round =>
      obtain ⟨k, hk, rfl, HK, kw, rfl⟩ := hrel
      by_cases hlt : k < n
      · have hat := HAT.out
        have hbt := HBT.out
        have hxi : l[k]? = some (l[k]'(by rw [← HN.out]; exact hlt)) := List.getElem?_eq_getElem _
        generalize l[k]'(by rw [← HN.out]; exact hlt) = x at hxi
        have hyi : m[k]? = some (m[k]'(by rw [← HN2.out]; exact hlt)) := List.getElem?_eq_getElem _
        generalize m[k]'(by rw [← HN2.out]; exact hlt) = y at hyi
        obtain ⟨-, b, o, ha, g0⟩ := hat k x hxi
        obtain ⟨-, b2, o2, ha2, g02⟩ := hbt k y hyi
        clear hat hbt
        unfold strV at g0 g02
        have HST := hid (drop_eq l m k x y hxi hyi)
        have hix := index_run1 Tryz.underlying25 size_str ha k hlt (cap := c)
        have hix2 := index_run1 Tryz.underlying25 size_str ha2 k hlt (cap := c2)
        clear ha ha2 hxi hyi
        by_cases hp : x = y
        · have HK2 : Hid (decide (l.drop (k + 1) = m.drop (k + 1)) = z) := by rw [Hid, ← HK.out, HST.out, decide_eq_true hp]; rfl
          have hb1 : ((⟨x.toArray⟩ : ByteArray).toList == (⟨y.toArray⟩ : ByteArray).toList) = true := by rw [bytes_beq]; simpa using hp
          have hb2 : ((⟨x.toArray⟩ : ByteArray).toList != (⟨y.toArray⟩ : ByteArray).toList) = false := by rw [bne, hb1]; rfl
          generalize (⟨x.toArray⟩ : ByteArray) = X at *
          generalize (⟨y.toArray⟩ : ByteArray) = Y at *
          clear hp HST HK
          go_wp2_with fail
          go_quiet (fail)
          go_wp2_with fail
          go_roundw
          case rel => exact ⟨k + 1, by omega, by go_num, HK2, _, rfl⟩
          case measure => simp [intOf]; omega
        · have hz : z = false := by rw [← HK.out, HST.out, decide_eq_false hp]; rfl
          subst hz
          have hb1 : ((⟨x.toArray⟩ : ByteArray).toList == (⟨y.toArray⟩ : ByteArray).toList) = false := by rw [bytes_beq]; simpa using hp
          have hb2 : ((⟨x.toArray⟩ : ByteArray).toList != (⟨y.toArray⟩ : ByteArray).toList) = true := by rw [bne, hb1]; rfl
          generalize (⟨x.toArray⟩ : ByteArray) = X at *
          generalize (⟨y.toArray⟩ : ByteArray) = Y at *
          clear hp HST HK
          go_wp2_with fail
          go_quiet (fail)
          go_wp2_with fail
          go_ret
          exact ⟨rfl, _, World.drewN_drewN _ _ _⟩
      · have hz : z = true := by
          rw [← HK.out, List.drop_of_length_le (by rw [← HN.out]; omega), List.drop_of_length_le (by rw [← HN2.out]; omega)]; rfl
        subst hz
        go_wp2_with fail
        go_ret
        exact ⟨rfl, _, rfl⟩
  · have hz : z = false := by
      rw [HZ.out]
      refine decide_eq_false ?_
      rintro rfl
      exact hnn (HN.out.trans HN2.out.symm)
    subst hz
    have e1 : decide ((n : Int) = n2) = false := decide_eq_false (by omega)
    have e2 : ((n : Int) == n2) = false := by simp; omega
    have e3 : (n == n2) = false := by simp; omega
    clear hnn
    go_enter Tryz.func23, Tryz.ntmps23
    go_wp2_with fail
    go_ret
    exact ⟨rfl, 0, rfl⟩
set_option maxRecDepth 100000 in
set_option maxHeartbeats 4000000 in
theorem equal_u64 {w : World} {v u : Value} {l m : List Nat} (h : WordsAt w v l) (hu : WordsAt w u m) :
    Calls Tryz.prog 43 #[v, u] w fun e w' => e = .returned (.bool (decide (l = m))) ∧ Drew w w' := by
  obtain ⟨-, a, c, rfl, -, hat⟩ := h.open
  obtain ⟨-, a2, c2, rfl, -, hbt⟩ := hu.open
  obtain ⟨n, HN⟩ : ∃ n, Hid (n = l.length) := ⟨_, rfl⟩
  obtain ⟨n2, HN2⟩ : ∃ n, Hid (n = m.length) := ⟨_, rfl⟩
  have hlen : n ≤ 140737488355328 := by rw [HN.out]; exact h.open.1
  have hlen2 : n2 ≤ 140737488355328 := by rw [HN2.out]; exact hu.open.1
  rw [← HN.out, ← HN2.out]
  obtain ⟨z, HZ⟩ : ∃ z, Hid (z = decide (l = m)) := ⟨_, rfl⟩
  rw [← HZ.out]
  have HAT := hid hat
  have HBT := hid hbt
  clear hat hbt h hu
  by_cases hnn : n = n2
  · subst hnn
    go_enter Tryz.func43, Tryz.ntmps43
    go_wp2_with fail
    go_loopw [13] (fun v8 wr => ∃ k : Nat, k ≤ n ∧ v8 = .int .i64 k ∧ Hid (decide (l.drop k = m.drop k) = z) ∧ (∃ kw, wr = w.drewN kw)) (fun v8 _ => n - (intOf v8).toNat)
    case atStart => exact ⟨0, by omega, rfl, by rw [HZ.out]; rfl, 0, rfl⟩
    case round =>
      obtain ⟨k, hk, rfl, HK, kw, rfl⟩ := hrel
      by_cases hlt : k < n
      · have hat := HAT.out
        have hbt := HBT.out
        have hxi : l[k]? = some (l[k]'(by rw [← HN.out]; exact hlt)) := List.getElem?_eq_getElem _
        generalize l[k]'(by rw [← HN.out]; exact hlt) = x at hxi
        have hyi : m[k]? = some (m[k]'(by rw [← HN2.out]; exact hlt)) := List.getElem?_eq_getElem _
        generalize m[k]'(by rw [← HN2.out]; exact hlt) = y at hyi
        obtain ⟨-, b, o, ha, g0⟩ := hat k x hxi
        obtain ⟨-, b2, o2, ha2, g02⟩ := hbt k y hyi
        clear hat hbt
        unfold wordV at g0 g02
        have HST := hid (drop_eq l m k x y hxi hyi)
        have hix := index_run1 Tryz.underlying49 size_u64 ha k hlt (cap := c)
        have hix2 := index_run1 Tryz.underlying49 size_u64 ha2 k hlt (cap := c2)
        clear ha ha2 hxi hyi
        by_cases hp : x = y
        · have HK2 : Hid (decide (l.drop (k + 1) = m.drop (k + 1)) = z) := by rw [Hid, ← HK.out, HST.out, decide_eq_true hp]; rfl
          have hb1 : ((x : Int) == (y : Int)) = true := by simpa using (by omega : ((x : Int) = (y : Int)))
          have hb2 : ((x : Int) != (y : Int)) = false := by rw [bne, hb1]; rfl
          clear hp HST HK
          go_wp2_with fail
          go_quiet (fail)
          go_wp2_with fail
          go_roundw
          case rel => exact ⟨k + 1, by omega, by go_num, HK2, _, rfl⟩
          case measure => simp [intOf]; omega
        · have hz : z = false := by rw [← HK.out, HST.out, decide_eq_false hp]; rfl
          subst hz
          have hb1 : ((x : Int) == (y : Int)) = false := by simpa using (by omega : ¬((x : Int) = (y : Int)))
          have hb2 : ((x : Int) != (y : Int)) = true := by rw [bne, hb1]; rfl
          clear hp HST HK
          go_wp2_with fail
          go_quiet (fail)
          go_wp2_with fail
          go_ret
          exact ⟨rfl, _, World.drewN_drewN _ _ _⟩
      · have hz : z = true := by
          rw [← HK.out, List.drop_of_length_le (by rw [← HN.out]; omega), List.drop_of_length_le (by rw [← HN2.out]; omega)]; rfl
        subst hz
        go_wp2_with fail
        go_ret
        exact ⟨rfl, _, rfl⟩
  · have hz : z = false := by
      rw [HZ.out]
      refine decide_eq_false ?_
      rintro rfl
      exact hnn (HN.out.trans HN2.out.symm)
    subst hz
    have e1 : decide ((n : Int) = n2) = false := decide_eq_false (by omega)
    have e2 : ((n : Int) == n2) = false := by simp; omega
    have e3 : (n == n2) = false := by simp; omega
    clear hnn
    go_enter Tryz.func43, Tryz.ntmps43
    go_wp2_with fail
    go_ret
    exact ⟨rfl, 0, rfl⟩
set_option maxRecDepth 100000 in
set_option maxHeartbeats 4000000 in
theorem equalFunc_msg {d d2 : Nat} {w : World} {v u : Value} {l : List (M d)} {m : List (M d2)} (h : SubsAt (MsgAt d) w v l) (hu : SubsAt (MsgAt d2) w u m) (F : Nat) (S : (M d) → (M d2) → Bool) (hcf : ∀ (args : Array Value) (w : World), (callFunc F args).run Tryz.prog w = .ok (.enter F args) w)
    (hcl : ∀ x ∈ l, ∀ y ∈ m, ∀ (xv yv : Value) (wr : World), MsgAt d w xv x → MsgAt d2 w yv y → Below w.heap.size w wr → Calls Tryz.prog F #[xv, yv] wr fun e w' => e = .returned (.bool (S x y)) ∧ Below wr.heap.size wr w') :
    Calls Tryz.prog 44 #[v, u, .func (.func F) #[] #[]] w fun e w' => e = .returned (.bool (all2 S l m)) ∧ Below w.heap.size w w' := by
  obtain ⟨-, a, c, rfl, -, hat⟩ := h.open
  obtain ⟨-, a2, c2, rfl, -, hbt⟩ := hu.open
  obtain ⟨n, HN⟩ : ∃ n, Hid (n = l.length) := ⟨_, rfl⟩
  obtain ⟨n2, HN2⟩ : ∃ n, Hid (n = m.length) := ⟨_, rfl⟩
  have hlen : n ≤ 140737488355328 := by rw [HN.out]; exact h.open.1
  have hlen2 : n2 ≤ 140737488355328 := by rw [HN2.out]; exact hu.open.1
  rw [← HN.out, ← HN2.out]
  obtain ⟨z, HZ⟩ : ∃ z, Hid (z = all2 S l m) := ⟨_, rfl⟩
  rw [← HZ.out]
  have HAT := hid hat
  have HBT := hid hbt
  have HCL := hid hcl
  clear hat hbt hcl h hu
  by_cases hnn : n = n2
  · subst hnn
    go_enter Tryz.func44, Tryz.ntmps44
    go_wp2_with fail
    go_loopw [17] (fun v8 wr => ∃ k : Nat, k ≤ n ∧ v8 = .int .i64 k ∧ Hid (all2 S (l.drop k) (m.drop k) = z) ∧ Hid (Below w.heap.size w wr)) (fun v8 _ => n - (intOf v8).toNat)
    case atStart => exact ⟨0, by omega, rfl, by rw [HZ.out]; rfl, Below.refl _ _⟩
    case round =>
      obtain ⟨k, hk, rfl, HK, HB⟩ := hrel
      by_cases hlt : k < n
      · have hat := HAT.out
        have hbt := HBT.out
        have hxi : l[k]? = some (l[k]'(by rw [← HN.out]; exact hlt)) := List.getElem?_eq_getElem _
        generalize l[k]'(by rw [← HN.out]; exact hlt) = x at hxi
        have hyi : m[k]? = some (m[k]'(by rw [← HN2.out]; exact hlt)) := List.getElem?_eq_getElem _
        generalize m[k]'(by rw [← HN2.out]; exact hlt) = y at hyi
        obtain ⟨b, o, v1, v2, ha, g0, g1, hM⟩ := hat k x hxi
        obtain ⟨b2, o2, u1, u2, ha2, f0, f1, hM2⟩ := hbt k y hyi
        clear hat hbt
        obtain ⟨p1, i1, j1, p2, i2, j2, e1⟩ := formM hM
        cases e1
        obtain ⟨q1, s1, t1, q2, s2, t2, e1⟩ := formM hM2
        cases e1
        have HXX := hid hM
        have HYY := hid hM2
        clear hM hM2
        replace g0 := below_keeps HB.out _ _ g0
        replace g1 := below_keeps HB.out _ _ g1
        replace f0 := below_keeps HB.out _ _ f0
        replace f1 := below_keeps HB.out _ _ f1
        have hst := hid (all2_drop S l m k x y hxi hyi)
        have hix := index_run Tryz.underlying50 size_msg ha k hlt (cap := c)
        have hix2 := index_run Tryz.underlying50 size_msg ha2 k hlt (cap := c2)
        have hbl : b < wr.heap.size := World.block_lt_of_cell? wr _ g0
        have hbl2 : b2 < wr.heap.size := World.block_lt_of_cell? wr _ f0
        have HMX := hid (List.mem_of_getElem? hxi)
        have HMY := hid (List.mem_of_getElem? hyi)
        clear ha ha2 hxi hyi
        go_wp2_with fail
        have hcl := HCL.out
        refine (hcl x HMX.out y HMY.out _ _ _ HXX.out HYY.out (HB.out.trans (Below.mono (B := wr.heap.size) (by (repeat (first | with_reducible exact Below.refl _ _ | with_reducible refine Below.setCell ?_ (by first | omega | (simp; omega) | (simp; done)) _ | with_reducible refine Below.alloc ?_ (by first | omega | (simp; omega) | (simp; done)) _ | with_reducible refine below_drewN ?_ _ | with_reducible refine Below.drew ?_))) HB.out.size))).mono ?_
        rintro e w5 ⟨rfl, hb5⟩
        clear hcl
        have HB5 : Hid (Below w.heap.size w w5) := (HB.out.trans (Below.mono (B := wr.heap.size) (by (repeat (first | with_reducible exact Below.refl _ _ | with_reducible refine Below.setCell ?_ (by first | omega | (simp; omega) | (simp; done)) _ | with_reducible refine Below.alloc ?_ (by first | omega | (simp; omega) | (simp; done)) _ | with_reducible refine below_drewN ?_ _ | with_reducible refine Below.drew ?_))) HB.out.size)).trans (hb5.mono (by simp; have := HB.out.size; omega))
        clear hb5
        cases hp : S x y with
        | false =>
          have hz : z = false := by rw [← HK.out, hst.out, hp]; rfl
          subst hz
          clear hp
          go_wp2
          go_ret
          exact ⟨rfl, HB5.out⟩
        | true =>
          have HK2 : Hid (all2 S (l.drop (k + 1)) (m.drop (k + 1)) = z) := by rw [Hid, ← HK.out, hst.out, hp]; rfl
          clear hp
          go_wp2
          go_roundw
          case rel => exact ⟨k + 1, by omega, by go_num, HK2, HB5⟩
          case measure => simp [intOf]; omega
      · have hz : z = true := by
          rw [← HK.out, List.drop_of_length_le (by rw [← HN.out]; omega), List.drop_of_length_le (by rw [← HN2.out]; omega)]; rfl
        subst hz
        go_wp2
        go_ret
        exact ⟨rfl, HB.out⟩
  · have hz : z = false := by
      rw [HZ.out]
      exact all2_len S l m (by rw [← HN.out, ← HN2.out]; exact hnn)
    subst hz
    go_enter Tryz.func44, Tryz.ntmps44
    go_wp2
    go_ret
    exact ⟨rfl, Below.refl _ _⟩
set_option maxRecDepth 100000 in
set_option maxHeartbeats 4000000 in
theorem equalFunc_val {d d2 : Nat} {w : World} {v u : Value} {l : List (Val (M d))} {m : List (Val (M d2))} (h : ValsAt (MsgAt d) w v l) (hu : ValsAt (MsgAt d2) w u m) (F : Nat) (S : (Val (M d)) → (Val (M d2)) → Bool) (hcf : ∀ (args : Array Value) (w : World), (callFunc F args).run Tryz.prog w = .ok (.enter F args) w)
    (hcl : ∀ x ∈ l, ∀ y ∈ m, ∀ (xv yv : Value) (wr : World), ValAt (MsgAt d) w xv x → ValAt (MsgAt d2) w yv y → Below w.heap.size w wr → Calls Tryz.prog F #[xv, yv] wr fun e w' => e = .returned (.bool (S x y)) ∧ Below wr.heap.size wr w') :
    Calls Tryz.prog 24 #[v, u, .func (.func F) #[] #[]] w fun e w' => e = .returned (.bool (all2 S l m)) ∧ Below w.heap.size w w' := by
  obtain ⟨-, a, c, rfl, -, hat⟩ := h.open
  obtain ⟨-, a2, c2, rfl, -, hbt⟩ := hu.open
  obtain ⟨n, HN⟩ : ∃ n, Hid (n = l.length) := ⟨_, rfl⟩
  obtain ⟨n2, HN2⟩ : ∃ n, Hid (n = m.length) := ⟨_, rfl⟩
  have hlen : n ≤ 140737488355328 := by rw [HN.out]; exact h.open.1
  have hlen2 : n2 ≤ 140737488355328 := by rw [HN2.out]; exact hu.open.1
  rw [← HN.out, ← HN2.out]
  obtain ⟨z, HZ⟩ : ∃ z, Hid (z = all2 S l m) := ⟨_, rfl⟩
  rw [← HZ.out]
  have HAT := hid hat
  have HBT := hid hbt
  have HCL := hid hcl
  clear hat hbt hcl h hu
  by_cases hnn : n = n2
  · subst hnn
    go_enter Tryz.func24, Tryz.ntmps24
    go_wp2_with fail
    go_loopw [17] (fun v8 wr => ∃ k : Nat, k ≤ n ∧ v8 = .int .i64 k ∧ Hid (all2 S (l.drop k) (m.drop k) = z) ∧ Hid (Below w.heap.size w wr)) (fun v8 _ => n - (intOf v8).toNat)
    case atStart => exact ⟨0, by omega, rfl, by rw [HZ.out]; rfl, Below.refl _ _⟩
    case round =>
      obtain ⟨k, hk, rfl, HK, HB⟩ := hrel
      by_cases hlt : k < n
      · have hat := HAT.out
        have hbt := HBT.out
        have hxi : l[k]? = some (l[k]'(by rw [← HN.out]; exact hlt)) := List.getElem?_eq_getElem _
        generalize l[k]'(by rw [← HN.out]; exact hlt) = x at hxi
        have hyi : m[k]? = some (m[k]'(by rw [← HN2.out]; exact hlt)) := List.getElem?_eq_getElem _
        generalize m[k]'(by rw [← HN2.out]; exact hlt) = y at hyi
        obtain ⟨b, o, v1, v2, v3, ha, g0, g1, g2, g3, hM⟩ := hat k x hxi
        obtain ⟨b2, o2, u1, u2, u3, ha2, f0, f1, f2, f3, hM2⟩ := hbt k y hyi
        clear hat hbt
        obtain ⟨p1, i1, j1, p2, i2, j2, p3, i3, j3, rfl, rfl, rfl⟩ := formV hM
        obtain ⟨q1, s1, t1, q2, s2, t2, q3, s3, t3, rfl, rfl, rfl⟩ := formV hM2
        have HXX := hid hM
        have HYY := hid hM2
        clear hM hM2
        replace g0 := below_keeps HB.out _ _ g0
        replace g1 := below_keeps HB.out _ _ g1
        replace g2 := below_keeps HB.out _ _ g2
        replace g3 := below_keeps HB.out _ _ g3
        replace f0 := below_keeps HB.out _ _ f0
        replace f1 := below_keeps HB.out _ _ f1
        replace f2 := below_keeps HB.out _ _ f2
        replace f3 := below_keeps HB.out _ _ f3
        have hst := hid (all2_drop S l m k x y hxi hyi)
        have hix := index_run Tryz.underlying24 size_val ha k hlt (cap := c)
        have hix2 := index_run Tryz.underlying24 size_val ha2 k hlt (cap := c2)
        have hbl : b < wr.heap.size := World.block_lt_of_cell? wr _ g0
        have hbl2 : b2 < wr.heap.size := World.block_lt_of_cell? wr _ f0
        have HMX := hid (List.mem_of_getElem? hxi)
        have HMY := hid (List.mem_of_getElem? hyi)
        clear ha ha2 hxi hyi
        generalize x.num = xn at *
        generalize y.num = yn at *
        go_wp2_with fail
        have hcl := HCL.out
        refine (hcl x HMX.out y HMY.out _ _ _ HXX.out HYY.out (HB.out.trans (Below.mono (B := wr.heap.size) (by (repeat (first | with_reducible exact Below.refl _ _ | with_reducible refine Below.setCell ?_ (by first | omega | (simp; omega) | (simp; done)) _ | with_reducible refine Below.alloc ?_ (by first | omega | (simp; omega) | (simp; done)) _ | with_reducible refine below_drewN ?_ _ | with_reducible refine Below.drew ?_))) HB.out.size))).mono ?_
        rintro e w5 ⟨rfl, hb5⟩
        clear hcl
        have HB5 : Hid (Below w.heap.size w w5) := (HB.out.trans (Below.mono (B := wr.heap.size) (by (repeat (first | with_reducible exact Below.refl _ _ | with_reducible refine Below.setCell ?_ (by first | omega | (simp; omega) | (simp; done)) _ | with_reducible refine Below.alloc ?_ (by first | omega | (simp; omega) | (simp; done)) _ | with_reducible refine below_drewN ?_ _ | with_reducible refine Below.drew ?_))) HB.out.size)).trans (hb5.mono (by simp; have := HB.out.size; omega))
        clear hb5
        cases hp : S x y with
        | false =>
          have hz : z = false := by rw [← HK.out, hst.out, hp]; rfl
          subst hz
          clear hp
          go_wp2
          go_ret
          exact ⟨rfl, HB5.out⟩
        | true =>
          have HK2 : Hid (all2 S (l.drop (k + 1)) (m.drop (k + 1)) = z) := by rw [Hid, ← HK.out, hst.out, hp]; rfl
          clear hp
          go_wp2
          go_roundw
          case rel => exact ⟨k + 1, by omega, by go_num, HK2, HB5⟩
          case measure => simp [intOf]; omega
      · have hz : z = true := by
          rw [← HK.out, List.drop_of_length_le (by rw [← HN.out]; omega), List.drop_of_length_le (by rw [← HN2.out]; omega)]; rfl
        subst hz
        go_wp2
        go_ret
        exact ⟨rfl, HB.out⟩
  · have hz : z = false := by
      rw [HZ.out]
      exact all2_len S l m (by rw [← HN.out, ← HN2.out]; exact hnn)
    subst hz
    go_enter Tryz.func24, Tryz.ntmps24
    go_wp2
    go_ret
    exact ⟨rfl, Below.refl _ _⟩
end Go.Proofs.YtbdeclkccchnoaaGreat
namespace Go.Proofs.YtbdeclkccchnoaaGreat
open Go.RowKit
def SameOk (a b : Nat) : Prop := ∀ (w : World) (v u : Value) (x : M a) (y : M b), MsgAt a w v x → MsgAt b w u y →
  Calls Tryz.prog 12 #[v, u] w fun e w' => e = .returned (.bool (sameB a b x y)) ∧ Below w.heap.size w w'
set_option maxRecDepth 100000 in
set_option maxHeartbeats 4000000 in
theorem tree_same_of {a b : Nat} (ih : SameOk a b) {w : World} {v u : Value} {x : Val (M a)} {y : Val (M b)} (h : ValAt (MsgAt a) w v x) (hu : ValAt (MsgAt b) w u y) :
    Calls Tryz.prog 25 #[v, u] w fun e w' => e = .returned (.bool (sameV (sameB a b) x y)) ∧ Below w.heap.size w w' := by
  obtain ⟨wv, tv, sv, rfl, hnum, hW, hT, hS⟩ := h
  obtain ⟨wv2, tv2, sv2, rfl, hnum2, hW2, hT2, hS2⟩ := hu
  obtain ⟨-, wa, wc, e1, -, -⟩ := hW.open
  obtain ⟨-, ta, tc, e2, -, -⟩ := hT.open
  obtain ⟨-, sa, sc, e3, -, -⟩ := hS.open
  obtain ⟨-, wa2, wc2, e4, -, -⟩ := hW2.open
  obtain ⟨-, ta2, tc2, e5, -, -⟩ := hT2.open
  obtain ⟨-, sa2, sc2, e6, -, -⟩ := hS2.open
  have HQ := hid fun W (hB0 : Below w.heap.size w W) => equal_u64 (hW.keep (below_keeps hB0)) (hW2.keep (below_keeps hB0))
  have HT := hid fun W (hB0 : Below w.heap.size w W) => equal_str (hT.keep (below_keeps hB0)) (hT2.keep (below_keeps hB0))
  have HS := hid fun W (hB0 : Below w.heap.size w W) => equalFunc_msg (hS.keep (below_keeps hB0) fun _ _ h => MsgAt.below h hB0) (hS2.keep (below_keeps hB0) fun _ _ h => MsgAt.below h hB0) 12 (sameB a b) (fun args w => by simp [go_sem])
    fun p _ q _ pv qv wr hp hq hb => ih wr pv qv p q (hp.below hb) (hq.below hb)
  obtain ⟨R, HR⟩ : ∃ R, Hid (R = sameV (sameB a b) x y) := ⟨_, rfl⟩
  rw [← HR.out]
  obtain ⟨q1, HQ1⟩ : ∃ q, Hid (q = decide (x.words = y.words)) := ⟨_, rfl⟩
  obtain ⟨q2, HQ2⟩ : ∃ q, Hid (q = decide (x.texts = y.texts)) := ⟨_, rfl⟩
  obtain ⟨q3, HQ3⟩ : ∃ q, Hid (q = all2 (sameB a b) x.subs y.subs) := ⟨_, rfl⟩
  rw [← HQ1.out] at HQ
  rw [← HQ2.out] at HT
  rw [← HQ3.out] at HS
  have hR : R = (decide (x.num = y.num) && q1 && q2 && q3) := by
    rw [HR.out, sameV, HQ1.out, HQ2.out, HQ3.out, Bool.decide_and, Bool.decide_and]
    simp [Bool.and_assoc]
  subst e1
  subst e2
  subst e3
  subst e4
  subst e5
  subst e6
  generalize x.words.length = n1 at *
  generalize x.texts.length = n2 at *
  generalize x.subs.length = n3 at *
  generalize y.words.length = m1 at *
  generalize y.texts.length = m2 at *
  generalize y.subs.length = m3 at *
  generalize x.num = xn at *
  generalize y.num = yn at *
  clear hW hT hS hW2 hT2 hS2 ih HQ1 HQ2 HQ3 HR
  clear x y
  by_cases hn : xn = yn
  · subst hn
    cases q1 with
    | false =>
      have hr : R = false := by rw [hR]; simp
      clear hR
      subst hr
      go_enter Tryz.func25, Tryz.ntmps25
      go_wp2_with fail
      refine (HQ.out _ (by (repeat (first | with_reducible exact Below.refl _ _ | with_reducible refine Below.setCell ?_ (by first | omega | (simp; omega) | (simp; done)) _ | with_reducible refine Below.alloc ?_ (by first | omega | (simp; omega) | (simp; done)) _ | with_reducible refine below_drewN ?_ _ | with_reducible refine Below.drew ?_)))).mono ?_
      rintro e w1 ⟨rfl, kw, rfl⟩
      go_wp2_with fail
      go_ret
      exact ⟨rfl, by (repeat (first | with_reducible exact Below.refl _ _ | with_reducible refine Below.setCell ?_ (by first | omega | (simp; omega) | (simp; done)) _ | with_reducible refine Below.alloc ?_ (by first | omega | (simp; omega) | (simp; done)) _ | with_reducible refine below_drewN ?_ _ | with_reducible refine Below.drew ?_))⟩
    | true =>
      cases q2 with
      | false =>
        have hr : R = false := by rw [hR]; simp
        clear hR
        subst hr
        go_enter Tryz.func25, Tryz.ntmps25
        go_wp2_with fail
        refine (HQ.out _ (by (repeat (first | with_reducible exact Below.refl _ _ | with_reducible refine Below.setCell ?_ (by first | omega | (simp; omega) | (simp; done)) _ | with_reducible refine Below.alloc ?_ (by first | omega | (simp; omega) | (simp; done)) _ | with_reducible refine below_drewN ?_ _ | with_reducible refine Below.drew ?_)))).mono ?_
        rintro e w1 ⟨rfl, kw, rfl⟩
        go_wp2_with fail
        refine (HT.out _ (by (repeat (first | with_reducible exact Below.refl _ _ | with_reducible refine Below.setCell ?_ (by first | omega | (simp; omega) | (simp; done)) _ | with_reducible refine Below.alloc ?_ (by first | omega | (simp; omega) | (simp; done)) _ | with_reducible refine below_drewN ?_ _ | with_reducible refine Below.drew ?_)))).mono ?_
        rintro e w1 ⟨rfl, kw, rfl⟩
        go_wp2_with fail
        go_ret
        exact ⟨rfl, by (repeat (first | with_reducible exact Below.refl _ _ | with_reducible refine Below.setCell ?_ (by first | omega | (simp; omega) | (simp; done)) _ | with_reducible refine Below.alloc ?_ (by first | omega | (simp; omega) | (simp; done)) _ | with_reducible refine below_drewN ?_ _ | with_reducible refine Below.drew ?_))⟩
      | true =>
        have hr : R = q3 := by rw [hR]; simp
        clear hR
        subst hr
        go_enter Tryz.func25, Tryz.ntmps25
        go_wp2_with fail
        refine (HQ.out _ (by (repeat (first | with_reducible exact Below.refl _ _ | with_reducible refine Below.setCell ?_ (by first | omega | (simp; omega) | (simp; done)) _ | with_reducible refine Below.alloc ?_ (by first | omega | (simp; omega) | (simp; done)) _ | with_reducible refine below_drewN ?_ _ | with_reducible refine Below.drew ?_)))).mono ?_
        rintro e w1 ⟨rfl, kw, rfl⟩
        go_wp2_with fail
        refine (HT.out _ (by (repeat (first | with_reducible exact Below.refl _ _ | with_reducible refine Below.setCell ?_ (by first | omega | (simp; omega) | (simp; done)) _ | with_reducible refine Below.alloc ?_ (by first | omega | (simp; omega) | (simp; done)) _ | with_reducible refine below_drewN ?_ _ | with_reducible refine Below.drew ?_)))).mono ?_
        rintro e w1 ⟨rfl, kw, rfl⟩
        go_wp2_with fail
        refine (HS.out _ (by (repeat (first | with_reducible exact Below.refl _ _ | with_reducible refine Below.setCell ?_ (by first | omega | (simp; omega) | (simp; done)) _ | with_reducible refine Below.alloc ?_ (by first | omega | (simp; omega) | (simp; done)) _ | with_reducible refine below_drewN ?_ _ | with_reducible refine Below.drew ?_)))).mono ?_
        rintro e w1 ⟨rfl, hb⟩
        go_wp2_with fail
        go_ret
        exact ⟨rfl, below_step (w1 := _) (by (repeat (first | with_reducible exact Below.refl _ _ | with_reducible refine Below.setCell ?_ (by first | omega | (simp; omega) | (simp; done)) _ | with_reducible refine Below.alloc ?_ (by first | omega | (simp; omega) | (simp; done)) _ | with_reducible refine below_drewN ?_ _ | with_reducible refine Below.drew ?_))) hb (by simp; omega)⟩
  · have hr : R = false := by rw [hR, decide_eq_false hn]; simp
    clear hR
    subst hr
    have e1 : ((xn : Int) == yn) = false := by simpa using hn
    go_enter Tryz.func25, Tryz.ntmps25
    go_wp2_with fail
    go_ret
    exact ⟨rfl, by (repeat (first | with_reducible exact Below.refl _ _ | with_reducible refine Below.setCell ?_ (by first | omega | (simp; omega) | (simp; done)) _ | with_reducible refine Below.alloc ?_ (by first | omega | (simp; omega) | (simp; done)) _ | with_reducible refine below_drewN ?_ _ | with_reducible refine Below.drew ?_))⟩
set_option maxRecDepth 100000 in
set_option maxHeartbeats 4000000 in
theorem tree_Same : ∀ (a b : Nat), SameOk a b := by
  intro a
  induction a with
  | zero => exact fun _ _ _ _ _ _ h _ => h.elim
  | succ a ih =>
    intro b
    cases b with
    | zero => exact fun _ _ _ _ _ _ h => h.elim
    | succ b =>
    intro w v u x y h hu
    obtain ⟨vv, uv, rfl, hV, hU⟩ := h
    obtain ⟨vv2, uv2, rfl, hV2, hU2⟩ := hu
    obtain ⟨-, va, vc, e1, -, -⟩ := hV.open
    obtain ⟨-, ua, uc, e2, -, -⟩ := hU.open
    obtain ⟨-, va2, vc2, e3, -, -⟩ := hV2.open
    obtain ⟨-, ua2, uc2, e4, -, -⟩ := hU2.open
    have HT := hid fun W (hB0 : Below w.heap.size w W) => equal_str (hU.keep (below_keeps hB0)) (hU2.keep (below_keeps hB0))
    have HS := hid fun W (hB0 : Below w.heap.size w W) => equalFunc_val (hV.keep (below_keeps hB0) fun _ _ h => MsgAt.below h hB0) (hV2.keep (below_keeps hB0) fun _ _ h => MsgAt.below h hB0) 25 (sameV (sameB a b)) (fun args w => by simp [go_sem])
      fun p _ q _ pv qv wr hp hq hb => tree_same_of (ih b) (VMsg.below hp hb) (VMsg.below hq hb)
    obtain ⟨R, HR⟩ : ∃ R, Hid (R = sameB (a + 1) (b + 1) x y) := ⟨_, rfl⟩
    rw [← HR.out]
    obtain ⟨q1, HQ1⟩ : ∃ q, Hid (q = decide (M.unk x = M.unk y)) := ⟨_, rfl⟩
    obtain ⟨q2, HQ2⟩ : ∃ q, Hid (q = all2 (sameV (sameB a b)) (M.vals x) (M.vals y)) := ⟨_, rfl⟩
    rw [← HQ1.out] at HT
    rw [← HQ2.out] at HS
    have hR : R = (q1 && q2) := by rw [HR.out, HQ1.out, HQ2.out]; rfl
    subst e1
    subst e2
    subst e3
    subst e4
    generalize (M.vals x).length = n1 at *
    generalize (M.unk x).length = n2 at *
    generalize (M.vals y).length = m1 at *
    generalize (M.unk y).length = m2 at *
    clear hV hU hV2 hU2 ih HQ1 HQ2 HR
    clear x y
    cases q1 with
    | false =>
      have hr : R = false := by rw [hR]; simp
      clear hR
      subst hr
      go_enter Tryz.func12, Tryz.ntmps12
      go_wp2_with fail
      refine (HT.out _ (by (repeat (first | with_reducible exact Below.refl _ _ | with_reducible refine Below.setCell ?_ (by first | omega | (simp; omega) | (simp; done)) _ | with_reducible refine Below.alloc ?_ (by first | omega | (simp; omega) | (simp; done)) _ | with_reducible refine below_drewN ?_ _ | with_reducible refine Below.drew ?_)))).mono ?_
      rintro e w1 ⟨rfl, kw, rfl⟩
      go_wp2_with fail
      go_ret
      exact ⟨rfl, by (repeat (first | with_reducible exact Below.refl _ _ | with_reducible refine Below.setCell ?_ (by first | omega | (simp; omega) | (simp; done)) _ | with_reducible refine Below.alloc ?_ (by first | omega | (simp; omega) | (simp; done)) _ | with_reducible refine below_drewN ?_ _ | with_reducible refine Below.drew ?_))⟩
    | true =>
      have hr : R = q2 := by rw [hR]; simp
      clear hR
      subst hr
      go_enter Tryz.func12, Tryz.ntmps12
      go_wp2_with fail
      refine (HT.out _ (by (repeat (first | with_reducible exact Below.refl _ _ | with_reducible refine Below.setCell ?_ (by first | omega | (simp; omega) | (simp; done)) _ | with_reducible refine Below.alloc ?_ (by first | omega | (simp; omega) | (simp; done)) _ | with_reducible refine below_drewN ?_ _ | with_reducible refine Below.drew ?_)))).mono ?_
      rintro e w1 ⟨rfl, kw, rfl⟩
      go_wp2_with fail
      refine (HS.out _ (by (repeat (first | with_reducible exact Below.refl _ _ | with_reducible refine Below.setCell ?_ (by first | omega | (simp; omega) | (simp; done)) _ | with_reducible refine Below.alloc ?_ (by first | omega | (simp; omega) | (simp; done)) _ | with_reducible refine below_drewN ?_ _ | with_reducible refine Below.drew ?_)))).mono ?_
      rintro e w1 ⟨rfl, hb⟩
      go_wp2_with fail
      go_ret
      exact ⟨rfl, below_step (w1 := _) (by (repeat (first | with_reducible exact Below.refl _ _ | with_reducible refine Below.setCell ?_ (by first | omega | (simp; omega) | (simp; done)) _ | with_reducible refine Below.alloc ?_ (by first | omega | (simp; omega) | (simp; done)) _ | with_reducible refine below_drewN ?_ _ | with_reducible refine Below.drew ?_))) hb (by simp; omega)⟩
end Go.Proofs.YtbdeclkccchnoaaGreat
namespace Go.Proofs.YtbdeclkccchnoaaGreat
open Go.RowKit
def DepthOk (d : Nat) : Prop := ∀ (w : World) (v : Value) (x : M d), MsgAt d w v x → mwt d x ≤ 1099511627776 →
  Calls Tryz.prog 7 #[v] w fun e w' => e = .returned (.int .i64 (depthM d x)) ∧ Below w.heap.size w w'
set_option maxRecDepth 100000 in
set_option maxHeartbeats 4000000 in
theorem tree_Depth : ∀ (d : Nat), DepthOk d := by
  intro d
  induction d with
  | zero => exact fun _ _ _ h _ => h.elim
  | succ d ih =>
    intro w v x h hw
    obtain ⟨vv, uv, rfl, hS, hT⟩ := h
    obtain ⟨-, ta, tc, rfl, -, -⟩ := hT.open
    obtain ⟨hsl, sa, sc, rfl, -, hsa⟩ := hS.open
    obtain ⟨tn, HTN⟩ : ∃ n, Hid (n = (M.unk x).length) := ⟨_, rfl⟩
    obtain ⟨sn, HSN⟩ : ∃ n, Hid (n = (M.vals x).length) := ⟨_, rfl⟩
    have HV : Hid (1 + twt (M.unk x) + ((M.vals x).map (vwt (mwt d))).sum ≤ 1099511627776) := hw
    rw [← HTN.out]
    rw [← HSN.out] at hsl ⊢
    have HSA := hid hsa
    have HIH := hid ih
    obtain ⟨vs, HVS⟩ : ∃ vs, Hid (vs = M.vals x) := ⟨_, rfl⟩
    show Calls _ _ #[_] _ fun e w' => e = .returned (.int .i64 (((M.vals x).map (depthV (depthM d))).foldl max 0 : Nat)) ∧ _
    rw [← HVS.out] at HSN HV HSA ⊢
    obtain ⟨R, HR⟩ : ∃ R, Hid (R = (vs.map (depthV (depthM d))).foldl max 0) := ⟨_, rfl⟩
    rw [← HR.out]
    have HRL : Hid (∀ i, ((vs.take i).map (depthV (depthM d))).foldl max 0 ≤ R) := fun i => by
      refine foldl_le _ _ (Nat.zero_le _) fun n hn => ?_
      obtain ⟨v, hv, rfl⟩ := List.mem_map.1 hn
      rw [HR.out]
      exact (foldl_max _ 0).2 _ (List.mem_map.2 ⟨v, List.mem_of_mem_take hv, rfl⟩)
    have HRB : R ≤ 1099511627776 := by
      have h1 := depth_le (d + 1) x
      have h2 : depthM (d + 1) x = R := by rw [HR.out, HVS.out]; rfl
      omega
    have HV2 : Hid (((vs.map (vwt (mwt d))).sum) ≤ 1099511627776) := by have := HV.out; show _ ≤ _; omega
    clear hsa ih hT hS hw HVS HTN HV
    clear x
    go_enter Tryz.func7, Tryz.ntmps7
    go_wp2_with fail
    obtain ⟨W0, HW0⟩ : ∃ W0, Hid (W0 = w.alloc (.cells #[.slice sa sn sc, .slice ta tn tc] 27)) := ⟨_, rfl⟩
    rw [← HW0.out]
    have hB0 : Below w.heap.size w W0 := by rw [HW0.out]; exact (Below.refl _ _).alloc (Nat.le_refl _) _
    have hsz0 : w.heap.size < W0.heap.size := by rw [HW0.out]; simp
    have hc3 : W0.cell? ⟨w.heap.size, 0, none⟩ = some (.slice sa sn sc) := by rw [HW0.out]; simp [go_sem]
    have HB0 := hid hB0
    have HC3 := hid hc3
    clear hB0
    go_loopw [3, 11] (fun v3 v11 wq => ∃ (y j : Nat), v3 = .int .i64 y ∧ j ≤ sn ∧ y ≤ 1099511627776 ∧ v11 = .int .i64 j ∧ Hid (y = ((vs.take j).map (depthV (depthM d))).foldl max 0) ∧ Hid (Below W0.heap.size W0 wq)) (fun _ v11 _ => sn - (intOf v11).toNat)
    case atStart => exact ⟨0, 0, rfl, by omega, by omega, rfl, rfl, Below.refl _ _⟩
    case round =>
      obtain ⟨y, j, rfl, hj, hy, rfl, HG, HBQ⟩ := hrel
      obtain ⟨wo, rfl⟩ : ∃ wo, wo = wr := ⟨_, rfl⟩
      by_cases hls : j < sn
      · have hmi : vs[j]? = some (vs[j]'(by rw [← HSN.out]; exact hls)) := List.getElem?_eq_getElem _
        generalize vs[j]'(by rw [← HSN.out]; exact hls) = m at hmi
        have hsa := HSA.out
        obtain ⟨b, o, v1, v2, v3, ha, g0, g1, g2, g3, hM⟩ := hsa j m hmi
        clear hsa
        have hBq : Below w.heap.size w wo := HB0.out.trans (HBQ.out.mono HB0.out.size)
        have hkr := below_keeps hBq
        replace g0 := hkr _ _ g0
        replace g1 := hkr _ _ g1
        replace g2 := hkr _ _ g2
        replace g3 := hkr _ _ g3
        obtain ⟨p1, i1, j1, p2, i2, j2, p3, i3, j3, rfl, rfl, rfl⟩ := formV hM
        have hM' := VMsg.below hM hBq
        obtain ⟨wv, tv, sv, ev, -, -, -, hSu⟩ := hM'
        cases ev
        obtain ⟨hul, ua, uc, e3, -, hua⟩ := hSu.open
        cases e3
        have HGO : Hid (((vs.take (j + 1)).map (depthV (depthM d))).foldl max 0 = max y (depthV (depthM d) m)) := by
          rw [Hid, foldl_take _ _ _ _ _ hmi, ← HG.out]
        have hmw : ∀ z ∈ m.subs, mwt d z ≤ 1099511627776 := fun z hz => by
          have h1 := mem_sum_le (vwt (mwt d)) vs m (List.mem_of_getElem? hmi)
          have h2 := HV2.out
          have h3 := mem_sum_le (mwt d) m.subs z hz
          have h4 : vwt (mwt d) m = 1 + m.words.length + twt m.texts + (m.subs.map (mwt d)).sum := rfl
          omega
        have HMW := hid hmw
        have HUA := hid hua
        have HRM : Hid (max y (depthV (depthM d) m) ≤ R) := by rw [Hid, ← HGO.out]; exact HRL.out _
        obtain ⟨un, HUN⟩ : ∃ n, Hid (n = m.subs.length) := ⟨_, rfl⟩
        rw [← HUN.out] at hul g3
        have hix := index_run Tryz.underlying24 size_val ha j hls (cap := sc)
        have hbl : b < wo.heap.size := World.block_lt_of_cell? wo _ g0
        obtain ⟨us, HUS⟩ : ∃ us, Hid (us = m.subs) := ⟨_, rfl⟩
        have HDV : Hid (depthV (depthM d) m = (us.map fun z => depthM d z + 1).foldl max 0) := by rw [Hid, HUS.out]; rfl
        rw [← HUS.out] at HUN HUA HMW
        obtain ⟨D, HD⟩ : ∃ D, Hid (D = depthV (depthM d) m) := ⟨_, rfl⟩
        rw [← HD.out] at HGO HRM HDV
        clear ha hkr hM hmi hSu hua hmw HUS HD
        generalize m.num = num at *
        clear m
        have HBQ2 := hid hBq
        clear hBq
        go_wp2_with fail
        obtain ⟨W1, HW1⟩ : ∃ W1, Hid (W1 = wo.alloc (.cells #[.int .i64 num, .slice p1 i1 j1, .slice p2 i2 j2, .slice p3 un j3] 52)) := ⟨_, rfl⟩
        rw [← HW1.out]
        have hB1 : Below wo.heap.size wo W1 := by rw [HW1.out]; exact (Below.refl _ _).alloc (Nat.le_refl _) _
        have HB1 := hid hB1
        clear hB1
        go_loopw [3, 18] (fun v3 v18 wz => ∃ (q i : Nat), v3 = .int .i64 q ∧ i ≤ un ∧ q ≤ 1099511627776 ∧ v18 = .int .i64 i ∧ Hid (q = ((us.take i).map fun z => depthM d z + 1).foldl max y) ∧ Hid (Below W1.heap.size W1 wz)) (fun _ v18 _ => un - (intOf v18).toNat)
        case atStart => exact ⟨y, 0, rfl, by omega, by omega, rfl, rfl, Below.refl _ _⟩
        case round =>
          obtain ⟨q, i, rfl, hi, hq, rfl, HQ, HBZ⟩ := hrel
          by_cases hlu : i < un
          · have hzi : us[i]? = some (us[i]'(by rw [← HUN.out]; exact hlu)) := List.getElem?_eq_getElem _
            generalize us[i]'(by rw [← HUN.out]; exact hlu) = z at hzi
            have hua := HUA.out
            obtain ⟨b2, o2, u1, u2, ha2, f0, f1, hZ⟩ := hua i z hzi
            obtain ⟨q1, s1, t1, q2, s2, t2, e3⟩ := formM hZ
            cases e3
            clear hua
            have HBX : Hid (Below wo.heap.size wo wr) := HB1.out.trans (HBZ.out.mono HB1.out.size)
            have hkr := below_keeps HBX.out
            replace f0 := hkr _ _ f0
            replace f1 := hkr _ _ f1
            have HZZ := hid (hZ.below HBX.out)
            have HZW : Hid (mwt d z ≤ 1099511627776) := HMW.out z (List.mem_of_getElem? hzi)
            have HQ2 : Hid (((us.take (i + 1)).map fun z => depthM d z + 1).foldl max y = max q (depthM d z + 1)) := by
              rw [Hid, foldl_take _ _ _ _ _ hzi, ← HQ.out]
            have hdz : max q (depthM d z + 1) ≤ 1099511627776 := by
              have h1 := foldl_from (us.map fun z => depthM d z + 1) y
              have h2 := (foldl_max (us.map fun z => depthM d z + 1) y).2 _ (List.mem_map.2 ⟨z, List.mem_of_getElem? hzi, rfl⟩)
              have h3 := HRM.out
              have h4 := HDV.out
              rw [← h4] at h1
              omega
            have hix2 := index_run Tryz.underlying50 size_msg ha2 i hlu (cap := j3)
            have hbl2 : b2 < wr.heap.size := World.block_lt_of_cell? wr _ f0
            clear ha2 hkr hZ hzi
            go_wp2_with fail
            refine (HIH.out _ _ z (HZZ.out.below (by (repeat (first | with_reducible exact Below.refl _ _ | with_reducible refine Below.setCell ?_ (by first | omega | (simp; omega) | (simp; done)) _ | with_reducible refine Below.alloc ?_ (by first | omega | (simp; omega) | (simp; done)) _ | with_reducible refine below_drewN ?_ _ | with_reducible refine Below.drew ?_)))) HZW.out).mono ?_
            rintro e w3 ⟨rfl, hb3⟩
            generalize depthM d z = s at *
            have HB3 : Hid (Below W1.heap.size W1 w3) := (HBZ.out.trans (Below.mono (B := wr.heap.size) (by (repeat (first | with_reducible exact Below.refl _ _ | with_reducible refine Below.setCell ?_ (by first | omega | (simp; omega) | (simp; done)) _ | with_reducible refine Below.alloc ?_ (by first | omega | (simp; omega) | (simp; done)) _ | with_reducible refine below_drewN ?_ _ | with_reducible refine Below.drew ?_))) HBZ.out.size)).trans (hb3.mono (by simp; have := HBZ.out.size; omega))
            go_wp2_with fail
            go_roundw
            case rel => exact ⟨max q (s + 1), i + 1, by go_num, hlu, hdz, by go_num, HQ2.out.symm, HB3⟩
            case measure => simp [intOf]; omega
          · obtain rfl : i = un := by omega
            go_wp2_with fail
            go_roundw
            case rel =>
              refine ⟨q, j + 1, rfl, hls, hq, by go_num, ?_, ?_⟩
              · have h1 := HQ.out
                rw [HUN.out, List.take_length, foldl_from, ← HDV.out] at h1
                rw [Hid, HGO.out, h1]
              · exact HBQ.out.trans (Below.mono (HB1.out.trans (HBZ.out.mono HB1.out.size)) HBQ.out.size)
            case measure => simp [intOf]; omega
      · obtain rfl : j = sn := by omega
        go_wp2_with fail
        go_ret
        refine ⟨ret1 (int_eq ?_), HB0.out.trans (HBQ.out.mono HB0.out.size)⟩
        have := HG.out
        rw [HSN.out, List.take_length, ← HR.out] at this
        rw [this]
end Go.Proofs.YtbdeclkccchnoaaGreat
