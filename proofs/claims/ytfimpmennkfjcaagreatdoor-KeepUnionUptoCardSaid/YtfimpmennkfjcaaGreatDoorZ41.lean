/- darninglaw19.KeepUnion returns true. Paths' weights of at most 2^40. Reading a list of strings from an argument's data; its weight is at most the reading's bulk. -/
import Derived.Test.YtfimpmennkfjcaaGreatDoorRows
import Derived.Test.YtfimpmennkfjcaaGreatDoorZ16
import Derived.Test.YtfimpmennkfjcaaGreatDoorZ18
import Derived.Test.YtfimpmennkfjcaaGreatDoorZ34
import Derived.Test.YtfimpmennkfjcaaGreatDoorZ40
import Derived.Deep.Slices
import Derived.SizedLaws
import Derived.ProofKit
namespace Go.Proofs.YtfimpmennkfjcaaGreatDoor
open Go.RowKit
/-- a list of strings behind another one of the call's own -/
theorem strs_append {w : World} {base : Nat} {v x : Value} {l m : List (List UInt8)} (h : StrsOwn w base v l) (hx : StrsAt w x m) (hlen : l.length + m.length ≤ 1099511627776) (hbase : base ≤ w.heap.size) :
    ∃ v' w', (Builtin.append_ #[25, 25] 25 #[v, x]).run Tryz.prog w = .ok v' w' ∧ StrsOwn w' base v' (l ++ m) ∧ w.grownBy w' v.ownBlock := by
  obtain ⟨v', w', h1, h2, h3, -⟩ := seg_append (P := Tryz.prog) w base 25 25 9 (.string ⟨#[]⟩) 1 16 under_strl info_string rfl (by decide) v x l.length m.length _ _ h hx.1 (by
    intro u hu
    obtain ⟨c, -, rfl⟩ := List.mem_map.1 hu
    rfl) (by omega) (by omega) hbase
  exact ⟨v', w', h1, by unfold StrsOwn; rw [List.length_append, List.map_append]; exact h2, h3⟩
/-- append(append([]string{}, p...), q...) -/
theorem strs_both {w : World} {p q : Value} {l m : List (List UInt8)} (hp : StrsAt w p l) (hq : StrsAt w q m) (hlen : l.length + m.length ≤ 1099511627776) :
    ∃ v1 w1 v2 w2, (Builtin.append_ #[25, 25] 25 #[.slice (some ⟨w.heap.size, 0, none⟩) 0 0, p]).run Tryz.prog (w.alloc (.cells #[] 9)) = .ok v1 w1 ∧
      (Builtin.append_ #[25, 25] 25 #[v1, q]).run Tryz.prog w1 = .ok v2 w2 ∧ StrsAt w2 v2 (l ++ m) ∧ Below w.heap.size w w2 ∧ (∃ a n c, v1 = .slice a n c) ∧ (∃ a c, v2 = .slice a (l ++ m).length c) := by
  have hb0 : Below w.heap.size w (w.alloc (.cells #[] 9)) := (Below.refl _ _).alloc (Nat.le_refl _) _
  have h0 : StrsOwn (w.alloc (.cells #[] 9)) w.heap.size (.slice (some ⟨w.heap.size, 0, none⟩) 0 0) [] := World.ownsRow_made (base := w.heap.size) (e := 9) (size := 1) w #[] 0 (Nat.le_refl _) (by unfold maxLen; omega) rfl
  obtain ⟨v1, w1, e1, o1, g1⟩ := strs_append h0 (hp.keep (below_keeps hb0)) (by simp; omega) hb0.size
  have hb1 : Below w.heap.size w w1 := hb0.grown g1 hb0.size (by intro q e; simp [Value.ownBlock] at e; omega)
  obtain ⟨v2, w2, e2, o2, g2⟩ := strs_append o1 (hq.keep (below_keeps hb1)) (by simpa using hlen) hb1.size
  have hb2 : Below w.heap.size w w2 := hb1.grown g2 hb1.size (fun q e => (World.ownsRow.lt o1 q e).1)
  rw [List.nil_append] at o2 o1
  refine ⟨v1, w1, v2, w2, e1, e2, o2.strs (by rw [List.length_append]; omega) ?_, hb2, ?_, o2.form⟩
  · intro t ht
    rcases List.mem_append.1 ht with h | h
    · exact hp.2 t h
    · exact hq.2 t h
  · obtain ⟨a, c, h⟩ := o1.form; exact ⟨a, _, c, h⟩
theorem twt_mem {l : List (List UInt8)} {t : List UInt8} (h : t ∈ l) : t.length < twt l := by
  have := mem_sum_le (fun t : List UInt8 => 1 + t.length) l t h
  unfold twt
  omega
theorem named_len (s : List Mes) (root d : Int) (b : List UInt8) (ps : List (List UInt8)) (keep : Bool) : (namedC s root d b ps keep).2.length ≤ b.length := by
  unfold namedC
  by_cases h1 : argsCode s root d = 0
  · rw [if_neg (by omega)]
    by_cases h2 : (makeC s root ps).1 = 0
    · rw [if_neg (by omega)]
      unfold partsC
      by_cases h3 : (vcheck s root b d).2 = 0
      · rw [if_neg (by omega)]
        by_cases h4 : (pathsC s root (makeC s root ps).2).1 = 0
        · rw [if_neg (by omega)]
          rw [vcheck_of h1] at h3
          exact kpart_le h3
        · rw [if_pos h4]; simp
      · rw [if_pos h3]; simp
    · rw [if_pos h2]; simp
  · rw [if_pos h1]; simp
theorem named_code (s : List Mes) (root d : Int) (b : List UInt8) (ps : List (List UInt8)) (keep : Bool) : (namedC s root d b ps keep).1 < 256 := by
  unfold namedC
  by_cases h1 : argsCode s root d = 0
  · rw [if_neg (by omega)]
    by_cases h2 : (makeC s root ps).1 = 0
    · rw [if_neg (by omega)]
      unfold partsC
      by_cases h3 : (vcheck s root b d).2 = 0
      · rw [if_neg (by omega)]
        by_cases h4 : (pathsC s root (makeC s root ps).2).1 = 0
        · rw [if_neg (by omega)]; show 0 < 256; decide
        · rw [if_pos h4]; show 10 < 256; decide
      · rw [if_pos h3]; exact vcheck_code s root b d
    · rw [if_pos h2]
      unfold makeC
      split
      · rcases maskArgs_cases s root with h | h | h <;> (simp only; omega)
      · split
        · show 13 < 256; decide
        · split
          · show 0 < 256; decide
          · show 10 < 256; decide
  · rw [if_pos h1]
    have := args_cases s root d
    simp only
    omega
set_option maxRecDepth 100000 in
set_option maxHeartbeats 8000000 in
theorem law19_KeepUnion {w : World} {sv bv pv qv : Value} {s : List Mes} {b : List UInt8} {p q : List (List UInt8)} (hS : SchemaAt w sv s) (hb : Bytes w bv b) (hP : StrsAt w pv p) (hQ : StrsAt w qv q) (hp : twt p ≤ 1099511627776) (hq : twt q ≤ 1099511627776) (root d : Int) :
    Calls Tryz.prog 3 #[sv, .int .i64 root, bv, .int .i64 d, pv, qv] w fun e w' => e = .returned (.bool true) ∧ Below w.heap.size w w' := by
  have HS := hid hS
  have HB := hid hb
  have HP := hid hP
  have HQ := hid hQ
  have HPW := hid (And.intro hp hq)
  have HPL : Hid ((∀ t ∈ p, t.length ≤ 1099511627776) ∧ ∀ t ∈ q, t.length ≤ 1099511627776) := ⟨fun t ht => by have := twt_mem ht; omega, fun t ht => by have := twt_mem ht; omega⟩
  obtain ⟨-, sa, sc, rfl, -⟩ := hS.open
  obtain ⟨-, a, c, rfl, -⟩ := hb.open
  obtain ⟨-, pa, pc, rfl, -, -⟩ := hP.open
  obtain ⟨-, qa, qc, rfl, -, -⟩ := hQ.open
  obtain ⟨sn, HSN⟩ : ∃ n, Hid (n = s.length) := ⟨_, rfl⟩
  obtain ⟨n, HN⟩ : ∃ n, Hid (n = b.length) := ⟨_, rfl⟩
  obtain ⟨pn, HPN⟩ : ∃ n, Hid (n = p.length) := ⟨_, rfl⟩
  obtain ⟨qn, HQN⟩ : ∃ n, Hid (n = q.length) := ⟨_, rfl⟩
  have hpn : pn ≤ 140737488355328 := by rw [HPN.out]; exact hP.open.1
  have hqn : qn ≤ 140737488355328 := by rw [HQN.out]; exact hQ.open.1
  rw [← HSN.out] at HS ⊢
  rw [← HN.out] at HB ⊢
  rw [← HPN.out] at HP ⊢
  rw [← HQN.out] at HQ ⊢
  obtain ⟨R, HR⟩ : ∃ R : Ending → World → Prop, Hid (R = fun e w' => e = .returned (.bool true) ∧ Below w.heap.size w w') := ⟨_, rfl⟩
  rw [← HR.out]
  have HTRUE : Hid (∀ w', Below w.heap.size w w' → R (.returned (.bool true)) w') := fun w' hb => by rw [HR.out]; exact ⟨rfl, hb⟩
  obtain ⟨lp, HLP⟩ : ∃ y, Hid (y = decide (6000 < twt p)) := ⟨_, rfl⟩
  obtain ⟨lq, HLQ⟩ : ∃ y, Hid (y = decide (6000 < twt q)) := ⟨_, rfl⟩
  clear hS hb hP hQ hp hq HR
  go_enter Tryz.func3, Tryz.ntmps3
  go_wp2_with fail
  refine (law19_alive _).mono ?_
  rintro e w1 ⟨rfl, hb1⟩
  have HB1 := hid hb1
  clear hb1
  go_wp2_with fail
  refine (law07_Few (HS.out.keep (below_keeps HB1.out))).mono ?_
  rintro e w2 ⟨⟨fw, rfl⟩, hb2⟩
  have HB2 := hid (HB1.out.trans (hb2.mono HB1.out.size))
  clear hb2
  cases fw with
  | false =>
    go_wp2_with fail
    exact HTRUE.out _ HB2.out
  | true =>
    by_cases hlong : (1200 : Int) < n
    · go_wp2_with fail
      exact HTRUE.out _ HB2.out
    · have HL1 := hid (law12_Long (HP.out.keep (below_keeps HB2.out)) HPW.out.1)
      have HL2 := hid (law12_Long (HQ.out.keep (below_keeps HB2.out)) HPW.out.2)
      rw [← HLP.out] at HL1
      rw [← HLQ.out] at HL2
      go_wp2_with fail
      refine HL1.out.mono ?_
      rintro e w3 ⟨rfl, rfl⟩
      cases lp with
      | true =>
        go_wp2_with fail
        exact HTRUE.out _ HB2.out
      | false =>
        go_wp2_with fail
        refine HL2.out.mono ?_
        rintro e w3 ⟨rfl, rfl⟩
        cases lq with
        | true =>
          go_wp2_with fail
          exact HTRUE.out _ HB2.out
        | false =>
          by_cases hmany : 200 < pn + qn
          · go_wp2_with fail
            exact HTRUE.out _ HB2.out
          · have hbl : b.length ≤ 1200 := by have := HN.out; omega
            have HBL := hid hbl
            have HW1 := hid (keep_Without (HS.out.below HB2.out) (HB.out.below HB2.out) (by omega) (HP.out.keep (below_keeps HB2.out)) HPL.out.1 root d)
            obtain ⟨c1, X, HX1⟩ : ∃ c1 X, Hid (namedC s root d b p false = (c1, X)) := ⟨_, _, rfl⟩
            rw [HX1.out] at HW1
            clear hbl HL1 HL2
            have hxl := named_len s root d b p false
            rw [HX1.out] at hxl
            have HXL := hid hxl
            clear hxl
            go_wp2_with fail
            refine HW1.out.mono ?_
            rintro e w3 ⟨v3, rfl, hO3, hb3⟩
            obtain ⟨xa, xc, rfl⟩ := hO3.form
            obtain ⟨xn, HXN⟩ : ∃ n, Hid (n = X.length) := ⟨_, rfl⟩
            have hX3 := hO3.bytes (by have := HXL.out; have := HBL.out; simp only at *; omega)
            simp only at hX3
            rw [← HXN.out] at hX3 ⊢
            have HX3 := hid hX3
            have HB3 := hid (HB2.out.trans (hb3.mono HB2.out.size))
            have HW2 := hid (keep_Without (HS.out.below HB3.out) hX3 (by have := HXL.out; have := HBL.out; simp only at *; omega) (HQ.out.keep (below_keeps HB3.out)) HPL.out.2 root d)
            obtain ⟨c2, Y, HY1⟩ : ∃ c2 Y, Hid (namedC s root d X q false = (c2, Y)) := ⟨_, _, rfl⟩
            rw [HY1.out] at HW2
            have hyl := named_len s root d X q false
            rw [HY1.out] at hyl
            have HYL := hid hyl
            clear hO3 hb3 hX3 hyl HW1
            go_wp2_with fail
            refine HW2.out.mono ?_
            rintro e w4 ⟨v4, rfl, hO4, hb4⟩
            obtain ⟨ya, yc, rfl⟩ := hO4.form
            obtain ⟨yn, HYN⟩ : ∃ n, Hid (n = Y.length) := ⟨_, rfl⟩
            have hY4 := hO4.bytes (by have := HXL.out; have := HYL.out; have := HBL.out; simp only at *; omega)
            simp only at hY4
            rw [← HYN.out] at hY4 ⊢
            have HY4 := hid hY4
            have HB4 := hid (HB3.out.trans (hb4.mono HB3.out.size))
            clear hO4 hb4 hY4 HW2
            have hc1b := named_code s root d b p false
            rw [HX1.out] at hc1b
            have hc2b := named_code s root d X q false
            rw [HY1.out] at hc2b
            simp only at hc1b hc2b
            by_cases hc1 : c1 = 0
            · by_cases hc2 : c2 = 0
              · subst hc1
                subst hc2
                have hpq : p.length + q.length ≤ 200 := by have := HPN.out; have := HQN.out; omega
                obtain ⟨hu1, hu2, -, hu4⟩ := union_law (by have := HBL.out; omega) HX1.out HY1.out hpq
                obtain ⟨u1, x1, u2, x2, e1, e2, hS2, hb5, ⟨g1, m1, k1, rfl⟩, ⟨g2, k2, rfl⟩⟩ := strs_both (HP.out.keep (below_keeps HB4.out)) (HQ.out.keep (below_keeps HB4.out)) (by omega)
                obtain ⟨rn, HRN⟩ : ∃ n, Hid (n = (p ++ q).length) := ⟨_, rfl⟩
                rw [← HRN.out] at e2 hS2
                have HB5 := hid (HB4.out.trans (hb5.mono HB4.out.size))
                have HY5 := hid (HY4.out.below hb5)
                have HPL2 : Hid ((∀ t ∈ p ++ q, t.length ≤ 1099511627776) ∧ ∀ t ∈ q ++ p, t.length ≤ 1099511627776) := ⟨fun t ht => (List.mem_append.1 ht).elim (HPL.out.1 t) (HPL.out.2 t), fun t ht => (List.mem_append.1 ht).elim (HPL.out.2 t) (HPL.out.1 t)⟩
                have HW3 := hid (keep_Without (HS.out.below HB5.out) (HB.out.below HB5.out) (by have := HBL.out; omega) hS2 HPL2.out.1 root d)
                rw [hu1] at HW3
                have HU2 := hid hu2
                have HU4 := hid hu4
                have HPQ := hid hpq
                clear hS2 hb5 hu1 hu2 hu4 hpq
                go_wp2_with (at_builtin; first | refine wpList_append_eq (o := ⟨some 80, _, _, _, _, _⟩) rfl _ _ _ rfl _ _ rfl rfl e1 ?_ | refine wpList_append_eq (o := ⟨some 82, _, _, _, _, _⟩) rfl _ _ _ rfl _ _ rfl rfl e2 ?_)
                refine HW3.out.mono ?_
                rintro e w5 ⟨v5, rfl, hO5, hb6⟩
                obtain ⟨za, zc, rfl⟩ := hO5.form
                have hZ5 := hO5.bytes (by have := HU4.out; have := HBL.out; simp only at *; omega)
                simp only at hZ5
                rw [← HYN.out] at hZ5 ⊢
                have HZ5 := hid hZ5
                have HB6 := hid (HB5.out.trans (hb6.mono HB5.out.size))
                have HY6 := hid (HY5.out.below hb6)
                obtain ⟨u3, x3, u4, x4, e3, e4, hS4, hb7, ⟨g3, m3, k3, rfl⟩, ⟨g4, k4, rfl⟩⟩ := strs_both (HQ.out.keep (below_keeps HB6.out)) (HP.out.keep (below_keeps HB6.out)) (by have := HPQ.out; omega)
                obtain ⟨rm, HRM⟩ : ∃ n, Hid (n = (q ++ p).length) := ⟨_, rfl⟩
                rw [← HRM.out] at e4 hS4
                have HB7 := hid (HB6.out.trans (hb7.mono HB6.out.size))
                have HY7 := hid (HY6.out.below hb7)
                have HZ7 := hid (HZ5.out.below hb7)
                have HW4 := hid (keep_Without (HS.out.below HB7.out) HY7.out (by have := HU4.out; have := HBL.out; omega) hS4 HPL2.out.2 root d)
                rw [HU2.out] at HW4
                clear hO5 hb6 hZ5 hS4 hb7 HW3 e1 e2
                go_wp2_with (at_builtin; first | refine wpList_append_eq (o := ⟨some 93, _, _, _, _, _⟩) rfl _ _ _ rfl _ _ rfl rfl e3 ?_ | refine wpList_append_eq (o := ⟨some 95, _, _, _, _, _⟩) rfl _ _ _ rfl _ _ rfl rfl e4 ?_)
                refine HW4.out.mono ?_
                rintro e w6 ⟨v6, rfl, hO6, hb8⟩
                obtain ⟨ta, tc, rfl⟩ := hO6.form
                have hT6 := hO6.bytes (by have := HU4.out; have := HBL.out; simp only at *; omega)
                simp only at hT6
                rw [← HYN.out] at hT6 ⊢
                have HB8 := hid (HB7.out.trans (hb8.mono HB7.out.size))
                have HSM1 := hid (ref01_Same (HY7.out.below hb8) (HZ7.out.below hb8))
                have HSM2 := hid (ref01_Same hT6 (HZ7.out.below hb8))
                rw [decide_eq_true (rfl : Y = Y)] at HSM1 HSM2
                clear hO6 hb8 hT6 HW4 e3 e4
                go_wp2_with fail
                refine HSM1.out.mono ?_
                rintro e w7 ⟨rfl, rfl⟩
                go_wp2_with fail
                refine HSM2.out.mono ?_
                rintro e w8 ⟨rfl, rfl⟩
                go_wp2_with fail
                exact HTRUE.out _ HB8.out
              · subst hc1
                have e1 : decide ((c2 : Int) = 0) = false := decide_eq_false (by omega)
                go_wp2_with fail
                exact HTRUE.out _ HB4.out
            · have e1 : decide ((c1 : Int) = 0) = false := decide_eq_false (by omega)
              go_wp2_with fail
              exact HTRUE.out _ HB4.out
end Go.Proofs.YtfimpmennkfjcaaGreatDoor
namespace Go.Proofs.YtfimpmennkfjcaaGreatDoor
open Go.RowKit Go.Deep
/-- every part of a datum is within the form's reach -/
def Light {H : Type} (P : Program) (t : TypeId) (d : DataW H) : Prop := ∀ n ∈ d.weights P t, n ≤ reachBytes
theorem light_slice {H : Type} {P : Program} {t e : TypeId} (ht : P.underlying t = some (.slice e)) {es sp : List (DataW H)} (h : Light P t (.slice es sp)) :
    (es.length + sp.length) * P.bytesOf e ≤ reachBytes ∧ (∀ d ∈ es, Light P e d) ∧ (∀ d ∈ sp, Light P e d) := by
  have all : ∀ (l : List (DataW H)) (d : DataW H), d ∈ l → ∀ n ∈ d.weights P e, n ∈ DataW.weightsAll P e l := by
    intro l
    induction l with
    | nil => intro d hd; simp at hd
    | cons x r ih =>
      intro d hd n hn
      rw [DataW.weightsAll]
      rcases List.mem_cons.1 hd with rfl | hd
      · exact List.mem_append_left _ hn
      · exact List.mem_append_right _ (ih d hd n hn)
  refine ⟨h _ (by simp [DataW.weights, ht]), fun d hd n hn => h n ?_, fun d hd n hn => h n ?_⟩
  · simp only [DataW.weights, ht]
    exact List.mem_cons_of_mem _ (List.mem_append_left _ (all _ d hd n hn))
  · simp only [DataW.weights, ht]
    exact List.mem_cons_of_mem _ (List.mem_append_right _ (all _ d hd n hn))
theorem light_struct {H : Type} {P : Program} {t : TypeId} {fs : Array Field} (ht : P.underlying t = some (.struct fs)) {ds : List (DataW H)} (h : Light P t (.agg ds)) :
    ∀ (i : Nat) (f : Field) (d : DataW H), fs[i]? = some f → ds[i]? = some d → Light P f.type d := by
  have each : ∀ (ts : List TypeId) (l : List (DataW H)) (i : Nat) (u : TypeId) (d : DataW H), ts[i]? = some u → l[i]? = some d → ∀ n ∈ d.weights P u, n ∈ DataW.weightsEach P ts l := by
    intro ts
    induction ts with
    | nil => intro l i u d hu; simp at hu
    | cons a r ih =>
      intro l i u d hu hd n hn
      cases l with
      | nil => simp at hd
      | cons x l =>
        rw [DataW.weightsEach]
        cases i with
        | zero => simp at hu hd; subst hu; subst hd; exact List.mem_append_left _ hn
        | succ i => exact List.mem_append_right _ (ih l i u d (by simpa using hu) (by simpa using hd) n hn)
  intro i f d hf hd n hn
  refine h n ?_
  simp only [DataW.weights, ht]
  exact each _ _ i f.type d (by simp; exact ⟨f, by simpa using hf, rfl⟩) hd n hn
theorem light_arg {H : Type} {P : Program} {ts : List TypeId} {ds : List (DataW H)} (h : (DataW.weightsEach P ts ds).all (· ≤ reachBytes) = true) {j : Nat} {t : TypeId} {d : DataW H} (ht : ts[j]? = some t) (hd : ds[j]? = some d) : Light P t d := by
  intro n hn
  have := List.all_eq_true.1 h _ (DataW.weights_mem_each ht hd n hn)
  simpa using this
theorem flat_one {α : Type} (n : Nat) (css : Nat → List α) (f : Nat → α) (h : ∀ i, i < n → css i = [f i]) : (List.range n).flatMap css = (List.range n).map f := by
  induction n with
  | zero => rfl
  | succ n ih =>
    rw [List.range_succ, List.flatMap_append, List.map_append, ih (fun i hi => h i (by omega))]
    simp [h n (by omega)]
theorem cells_str : Tryz.prog.cellsOf 9 = 1 := by kernel_rfl
/-- a slice of whatever elements, as cells -/
theorem seg_of_trod2 {H : Type} {enc : TypeId × Value → H} {P : Program} {w : World} {t e : TypeId} {size : Nat} (ht : P.underlying t = some (.slice e)) (hce : P.cellsOf e = size) (hbytes : 1 ≤ P.bytesOf e)
    {v : Value} {d : DataW H} {p : List MemPlace} (hv : ∃ a n c, v = .slice a n c) (h : DataW.Trod enc P w 0 (fun _ => true) true t v d p) (hL : Light P t d) :
    ∃ (n fuel : Nat) (css : Nat → List Value) (D : Nat → DataW H) (Pl : Nat → List MemPlace), Seg w v size n ((List.range n).flatMap css) ∧ (∀ i, i < n → (css i).length = size ∧ DataW.trod enc P w 0 (fun _ => true) true fuel e (css i) = some (D i, Pl i) ∧ Light P e (D i)) ∧ (d = .nil ∧ n = 0 ∨ ∃ sp, d = .slice ((List.range n).map D) sp) := by
  obtain ⟨a0, n0, c0, rfl⟩ := hv
  obtain ⟨fuel, h⟩ := h
  rcases open_slice ht h with ⟨hcs, hx⟩ | ⟨a, len, cap, m, n, D, Pl, hcs, -, hl, hm, hmm, hx, hel⟩
  · simp [Value.cells] at hcs
    obtain ⟨rfl, rfl, rfl⟩ := hcs
    exact ⟨0, 0, fun _ => [], fun _ => .nil, fun _ => [], ⟨by simp, by simp, none, 0, rfl, Nat.le_refl _, by omega, fun _ => rfl, fun j u hu => by simp at hu⟩, fun i hi => absurd hi (by omega), .inl ⟨by cases hx; rfl, rfl⟩⟩
  · simp [Value.cells] at hcs
    obtain ⟨rfl, rfl, rfl⟩ := hcs
    simp only [if_true] at hmm
    subst hmm
    simp only [Prod.mk.injEq] at hx
    obtain ⟨rfl, -⟩ := hx
    obtain ⟨hb, hle, -⟩ := light_slice ht hL
    simp only [List.length_map, List.length_range] at hb
    have hn47 : n0 ≤ 140737488355328 := by
      have h1 : reachBytes < 2 ^ 47 := reachBytes_lt
      have h2 : n0 * 1 ≤ (n0 + (m - n0)) * P.bytesOf e := Nat.mul_le_mul (by omega) hbytes
      omega
    obtain ⟨css, hcss⟩ := choose_lt (α := List Value) (n := n0) (p := fun i cs => w.cells? 0 (a.add (i * P.cellsOf e)) (P.cellsOf e) = some cs ∧ DataW.trod enc P w 0 (fun _ => true) true n e cs = some (D i, Pl i)) (fun i hi => hel i (by omega))
    have hlen : ∀ i, i < n0 → (css i).length = size := fun i hi => by rw [← hce]; exact (World.cells?_some (hcss i hi).1).2.1
    have flat : ∀ (k : Nat), k ≤ n0 → ((List.range k).flatMap css).length = k * size := by
      intro k
      induction k with
      | zero => intro _; simp
      | succ k ih =>
        intro hk
        rw [List.range_succ, List.flatMap_append, List.length_append, ih (by omega)]
        simp [hlen k (by omega), Nat.succ_mul]
    refine ⟨n0, n, css, D, Pl, ⟨flat n0 (Nat.le_refl _), hn47, some a, m, rfl, hl, by unfold maxLen at hm; omega, by simp, ?_⟩, fun i hi => ⟨hlen i hi, (hcss i hi).2, hle _ (List.mem_map.2 ⟨i, List.mem_range.2 hi, rfl⟩)⟩, .inr ⟨_, rfl⟩⟩
    intro j u hu
    -- the cell at place j lies in element j / size
    have get : ∀ (k : Nat), k ≤ n0 → ∀ j u, ((List.range k).flatMap css)[j]? = some u → ∃ i q, i < k ∧ q < size ∧ j = i * size + q ∧ (css i)[q]? = some u := by
      intro k
      induction k with
      | zero => intro _ j u hu; simp at hu
      | succ k ih =>
        intro hk j u hu
        rw [List.range_succ, List.flatMap_append] at hu
        by_cases hj : j < k * size
        · rw [List.getElem?_append_left (by rw [flat k (by omega)]; exact hj)] at hu
          obtain ⟨i, q, h1, h2, h3, h4⟩ := ih (by omega) j u hu
          exact ⟨i, q, by omega, h2, h3, h4⟩
        · rw [List.getElem?_append_right (by rw [flat k (by omega)]; omega), flat k (by omega)] at hu
          simp at hu
          have hq : j - k * size < size := by
            have := (List.getElem?_eq_some_iff.1 hu).1
            rw [hlen k (by omega)] at this; exact this
          exact ⟨k, j - k * size, by omega, hq, by omega, hu⟩
    obtain ⟨i, q, h1, h2, rfl, h4⟩ := get n0 (Nat.le_refl _) j u hu
    obtain ⟨-, -, hc⟩ := World.cells?_some (hcss i h1).1
    have hcell := hc q (by rw [hce]; exact h2)
    rw [h4, hce, add_add] at hcell
    have hspot : a.spot = none := by
      have h0 := (World.cells?_some (hcss 0 (by omega)).1).2.2 0 (by rw [hce]; omega)
      have h5 : (css 0)[0]? = some ((css 0)[0]'(by rw [hlen 0 (by omega)]; omega)) := List.getElem?_eq_getElem _
      rw [h5] at h0
      simpa [Addr.add] using World.cell?_spot h0
    obtain ⟨b, o, sp⟩ := a
    have : sp = none := hspot
    subst this
    rw [addr_add] at hcell
    exact ⟨b, o, rfl, hcell⟩
theorem bulkAll_sum {H : Type} : ∀ l : List (DataW H), Rows.uptoBulkAll l = (l.map Rows.uptoBulk).sum
  | [] => by simp [Rows.uptoBulkAll]
  | x :: r => by simp [Rows.uptoBulkAll, bulkAll_sum r]
theorem sum_range_le {f g : Nat → Nat} : ∀ n, (∀ i, i < n → f i ≤ g i) → ((List.range n).map f).sum ≤ ((List.range n).map g).sum
  | 0, _ => by simp
  | n + 1, h => by
    have h1 := sum_range_le n fun i hi => h i (by omega)
    have h2 := h n (by omega)
    rw [List.range_succ, List.map_append, List.map_append, List.sum_append, List.sum_append]
    simp
    omega
/-- the elements' weights, all together -/
theorem bulk_elems {H : Type} {n : Nat} {D : Nat → DataW H} {d : DataW H} {f : Nat → Nat} (hd : d = .nil ∧ n = 0 ∨ ∃ sp, d = .slice ((List.range n).map D) sp) (hf : ∀ i, i < n → f i ≤ Rows.uptoBulk (D i)) : ((List.range n).map f).sum + 1 ≤ Rows.uptoBulk d := by
  rcases hd with ⟨rfl, rfl⟩ | ⟨sp, rfl⟩
  · simp [Rows.uptoBulk]
  · have h := sum_range_le n hf
    simp only [Rows.uptoBulk, bulkAll_sum, List.map_map]
    have e : (List.range n).map (Rows.uptoBulk ∘ D) = (List.range n).map fun i => Rows.uptoBulk (D i) := rfl
    rw [e]
    omega
theorem bytes_str : Tryz.prog.bytesOf 9 = 16 := by kernel_rfl
theorem strs_of_trod {H : Type} {enc : TypeId × Value → H} {w : World} {v : Value} {d : DataW H} {p : List MemPlace} (hv : ∃ a n c, v = .slice a n c) (h : DataW.Trod enc Tryz.prog w 0 (fun _ => true) true 25 v d p) (hL : Light Tryz.prog 25 d) :
    ∃ l, StrsAt w v l ∧ twt l + 1 ≤ Rows.uptoBulk d := by
  obtain ⟨n, fuel, css, D, Pl, hs, hel, hd⟩ := seg_of_trod2 Tryz.underlying25 cells_str (by rw [bytes_str]; omega) hv h hL
  obtain ⟨c, hc⟩ := choose_lt (α := List UInt8) (n := n) (p := fun i c => css i = [strV c] ∧ c.length ≤ 140737488355328 ∧ 1 + c.length ≤ Rows.uptoBulk (D i)) (fun i hi => by
    obtain ⟨h1, h2, h3⟩ := hel i hi
    obtain ⟨s, hs, hx, -⟩ := DataW.trod_string Tryz.underlying9 h2
    simp only [Prod.mk.injEq] at hx
    have hlen : s.data.toList.length ≤ 140737488355328 := by
      have h4 := h3
      rw [hx.1] at h4
      have h5 := h4 s.data.toList.length (by simp [DataW.weights])
      have h6 : reachBytes < 2 ^ 47 := reachBytes_lt
      omega
    refine ⟨s.data.toList, ?_, hlen, ?_⟩
    · rw [hs]; simp [strV]
    · rw [hx.1]; simp [Rows.uptoBulk]; omega)
  refine ⟨(List.range n).map c, ⟨?_, ?_⟩, ?_⟩
  · rw [List.length_map, List.length_range, List.map_map, ← flat_one n css (strV ∘ c) (fun i hi => (hc i hi).1)]
    exact hs
  · intro t ht
    obtain ⟨i, hi, rfl⟩ := List.mem_map.1 ht
    exact (hc i (List.mem_range.1 hi)).2.1
  · have := bulk_elems (f := fun i => 1 + (c i).length) hd fun i hi => (hc i hi).2.2
    unfold twt
    rw [List.map_map]
    exact this
/-- a slice's value, of its cells -/
theorem trod_slice_form {H : Type} {enc : TypeId × Value → H} {P : Program} {w : World} {t e : TypeId} {fuel : Nat} {u : Value} {x : DataW H × List MemPlace} (ht : P.underlying t = some (.slice e)) (h : DataW.trod enc P w 0 (fun _ => true) true fuel t [u] = some x) : ∃ a n c, u = .slice a n c := by
  rcases open_slice ht h with ⟨hcs, -⟩ | ⟨a, len, cap, m, n, D, Pl, hcs, -⟩
  · exact ⟨_, _, _, by simpa using hcs⟩
  · exact ⟨_, _, _, by simpa using hcs⟩
end Go.Proofs.YtfimpmennkfjcaaGreatDoor
