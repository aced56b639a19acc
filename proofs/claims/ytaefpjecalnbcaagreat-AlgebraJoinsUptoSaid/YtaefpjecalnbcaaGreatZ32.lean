/- Parts of a proof: texts of the author, merged. No condition of their own. -/
import Derived.Test.YtaefpjecalnbcaaGreatZ09
import Derived.Test.YtaefpjecalnbcaaGreatZ13
import Derived.Test.YtaefpjecalnbcaaGreatZ18
import Derived.Test.YtaefpjecalnbcaaGreatZ27
import Derived.Lib.AppendZerosOnto
namespace Go.Proofs.YtaefpjecalnbcaaGreat
open Go.RowKit
variable {P : Program} {ops : Array Oper} {md : Region.Mode} {Q : Exit → Act → World → Prop}
def ObJ (P : Program) (ops : Array Oper) (V : World → Prop) (R : Nat → World → World → Prop) (I : Nat → World → Value → Prop) (all : List FlI) (a0 : Act) (p : FlI) (o : Oper) : Prop :=
  ∀ (vals : Nat → Value) (w : World), V w → (∀ j ∈ p.ds, I j w (vals j)) → ∀ K : Exit → Act → World → Prop, Hid (∀ v w', V w' → R p.k w w' → I p.k w' v → K .normal ((actI all vals a0).put (some p.d) v) w') → wpList P ops K [o] (actI all vals a0) w
def cmpJ (md : Region.Mode) (ops : Array Oper) (eat : Nat → Option Nat) (pl : List FlI) (cp : Nat → Nat → Bool) : Bool :=
  pl.all fun q => pl.all fun p => q.k == p.k || laterB md ops 60 p.k q.k || (match eat q.k with | some e => e == p.k || laterB md ops 60 e p.k | none => false) || cp q.k p.k
theorem wpAnyJ_inv (hsel : Region.noSelect ops = true) (hQ : ∀ c (a : Act) dst v w, Q (.panic c) (a.put dst v) w → Q (.panic c) a w) {g : Nat} {V : World → Prop} (I : Nat → World → Value → Prop)
    (R : Nat → World → World → Prop) (eat : Nat → Option Nat) (cp : Nat → Nat → Bool) (hI : ∀ i j w w' v, cp i j = true → I i w v → R j w w' → I i w' v) (pl : List FlI) (ts2 : List (Nat × Nat × Nat)) (os2 : List Oper) (hos2 : os2.map some = ts2.map (fun t => ops[t.1]?)) (base : Array Bool)
    (hE : (pl.all fun p => p.ds.all fun j => eat j == none || eat j == some p.k) = true) (hC : cmpJ md ops eat pl cp = true) (hB : planI md ops g pl base = true) (hB2 : planH md ops g ts2 (setI pl base) = true) (a0 : Act) (hob : ∀ p ∈ pl, ∀ o, ops[p.k]? = some o → ObJ P ops V R I pl a0 p o)
    (hfin : ∀ vals w, V w → (∀ p ∈ pl, eat p.k = none → I p.k w (vals p.k)) → seqH P ops Q (fun _ => True) V (ts2.map (·.2)) os2 (actI pl vals a0) w) :
    ∀ (n : Nat) (listed : Array Bool) (vals : Nat → Value) (w : World), (pl.filter fun p => !listed.getD p.k false).length ≤ n → listed.size = base.size → (∀ i, i ∉ pl.map (·.k) → listed[i]? = base[i]?) → ClosedL md ops listed → V w →
      (∀ p ∈ pl, listed.getD p.k false = true → (∀ e, eat p.k = some e → listed.getD e false = false) → I p.k w (vals p.k)) → wpAnyG P md ops Q (fun _ => True) V g (n + ts2.length) listed (actI pl vals a0) w := by
  unfold planI at hB
  simp only [Bool.and_eq_true, decide_eq_true_eq] at hB
  obtain ⟨⟨⟨⟨b1, b2⟩, b3⟩, b4⟩, b5⟩ := hB
  have hk := nodupB_spec b1
  have hd := nodupB_spec b2
  have hfull : ∀ (listed : Array Bool), listed.size = base.size → (∀ i, i ∉ pl.map (·.k) → listed[i]? = base[i]?) → (∀ p ∈ pl, listed.getD p.k false = true) → listed = setI pl base := by
    intro listed _ ho ha
    apply Array.ext_getElem?
    intro i
    rw [setI_get]
    by_cases hi : i ∈ pl.map (·.k)
    · rw [if_pos hi]
      obtain ⟨p, hp, rfl⟩ := List.mem_map.1 hi
      have h1 := List.all_eq_true.1 b3 p hp
      simp only [Bool.and_eq_true, beq_iff_eq] at h1
      rw [getD_of (ha p hp), h1.1.1.1.1]; rfl
    · rw [if_neg hi, ho i hi]
  have hdone : ∀ (listed : Array Bool) (vals : Nat → Value) (w : World) (n : Nat), listed.size = base.size → (∀ i, i ∉ pl.map (·.k) → listed[i]? = base[i]?) → ClosedL md ops listed → V w → (∀ p ∈ pl, listed.getD p.k false = true) →
      (∀ p ∈ pl, listed.getD p.k false = true → (∀ e, eat p.k = some e → listed.getD e false = false) → I p.k w (vals p.k)) → wpAnyG P md ops Q (fun _ => True) V g (n + ts2.length) listed (actI pl vals a0) w := by
    intro listed vals w n hz ho hc hV ha hIl
    have hl := hfull listed hz ho ha
    subst hl
    exact wpAnyG_plus (wpAnyG_permH (md := md) (g := g) hsel hQ ts2 os2 _ _ w hos2 hc hB2 trivial (fun _ => hV) (hfin vals w hV fun p hp hn => hIl p hp (ha p hp) fun e he => by rw [hn] at he; cases he)) n
  intro n
  induction n with
  | zero =>
    intro listed vals w hn hz ho hc hV hIl
    refine hdone listed vals w 0 hz ho hc hV (fun p hp => ?_) hIl
    have h0 := List.length_eq_zero_iff.1 (Nat.le_zero.1 hn)
    have := List.filter_eq_nil_iff.1 h0 p hp
    simpa using this
  | succ n ih =>
    intro listed vals w hn hz ho hc hV hIl
    by_cases hall : ∀ p ∈ pl, listed.getD p.k false = true
    · exact hdone listed vals w (n + 1) hz ho hc hV hall hIl
    · have hex : ∃ p ∈ pl, listed.getD p.k false = false := by
        refine Classical.byContradiction fun hc => hall fun p hp => ?_
        cases h : listed.getD p.k false with
        | true => rfl
        | false => exact absurd ⟨p, hp, h⟩ hc
      rw [Nat.add_right_comm]
      refine ⟨fun hr => ?_, fun i hi => ?_⟩
      · exfalso
        obtain ⟨p, hp, hun, hmin⟩ := leastF hex
        have h1 := List.all_eq_true.1 b3 p hp
        simp only [Bool.and_eq_true, beq_iff_eq] at h1
        obtain ⟨⟨⟨⟨e1, e2⟩, e3⟩, e4⟩, e5⟩ := h1
        cases hop : ops[p.k]? with
        | none => rw [hop] at e3; cases e3
        | some o =>
          rw [hop] at e5
          have : p.k ∈ Region.ready md ops listed := by
            refine mem_ready.2 ⟨?_, o, hop, fun e he hb => ?_⟩
            · have hlt : p.k < listed.size := by
                rw [hz]
                exact (Array.getElem?_eq_some_iff.1 e1).1
              rw [Array.getD_eq_getD_getElem?, Array.getElem?_eq_getElem hlt] at hun ⊢
              simpa using hun
            · have h2 := List.all_eq_true.1 e5 e (Array.mem_toList_iff.2 he)
              rw [hb] at h2
              simp only [Bool.not_true, Bool.false_or, Bool.or_eq_true, Bool.and_eq_true, decide_eq_true_eq] at h2
              rcases h2 with h2 | ⟨h2, h3⟩
              · by_cases hm : e.on ∈ pl.map (·.k)
                · obtain ⟨q, hq, hqk⟩ := List.mem_map.1 hm
                  have h4 := List.all_eq_true.1 b3 q hq
                  simp only [Bool.and_eq_true, beq_iff_eq] at h4
                  have h5 := h4.1.1.1.1
                  rw [hqk] at h5
                  rw [getD_of h2] at h5
                  cases h5
                · rw [Array.getD_eq_getD_getElem?, ho _ hm, ← Array.getD_eq_getD_getElem?]; exact h2
              · obtain ⟨q, hq, hqk⟩ := List.mem_map.1 (List.contains_iff_mem.1 h2)
                cases hl : listed.getD e.on false with
                | true => rfl
                | false =>
                  have := hmin q hq (by rw [hqk]; exact hl)
                  omega
          rw [hr] at this
          cases this
      · obtain ⟨hun, o, hop, hdeps⟩ := mem_ready.1 hi
        have hunf := unlisted_of_ready hi
        have hip : i ∈ pl.map (·.k) := by
          refine Classical.byContradiction fun hm => ?_
          have hlt : i < ops.size := (Array.getElem?_eq_some_iff.1 hop).1
          have h1 := List.all_eq_true.1 b4 i (List.mem_range.2 hlt)
          have h2 : base[i]? = some false := by
            rw [← ho i hm]
            have hl2 : i < listed.size := by rw [hz, b5]; exact hlt
            rw [Array.getD_eq_getD_getElem?, Array.getElem?_eq_getElem hl2] at hunf
            rw [Array.getElem?_eq_getElem hl2]
            simpa using hunf
          have h3 : (pl.map (·.k)).contains i = false := by
            cases h : (pl.map (·.k)).contains i with
            | false => rfl
            | true => exact absurd (List.contains_iff_mem.1 h) hm
          rw [h2, h3] at h1
          simp only [beq_self_eq_true, Bool.not_true, Bool.false_or] at h1
          obtain ⟨p, hp, hpu⟩ := hex
          exact (later_spec hc 60 p.k i (List.all_eq_true.1 h1 p hp) hpu).1 hi
        obtain ⟨p, hp, rfl⟩ := List.mem_map.1 hip
        have h1 := List.all_eq_true.1 b3 p hp
        simp only [Bool.and_eq_true, beq_iff_eq, Bool.not_eq_true', beq_eq_false_iff_ne] at h1
        obtain ⟨⟨⟨⟨e1, e2⟩, e3⟩, e4⟩, -⟩ := h1
        rw [hop] at e3
        simp only [Option.map_some, Option.getD_some, decide_eq_true_eq] at e3
        have hds : ∀ j ∈ p.ds, I j w (vals j) := by
          intro j hj
          have h4 := List.all_eq_true.1 e4 j hj
          rw [Bool.and_eq_true] at h4
          obtain ⟨q, hq, rfl⟩ := List.mem_map.1 (List.contains_iff_mem.1 h4.1)
          refine hIl q hq ?_ fun e he => ?_
          · cases hl : listed.getD q.k false with
            | true => rfl
            | false => exact absurd hi (later_spec hc 60 q.k p.k h4.2 hl).1
          · have h5 := List.all_eq_true.1 (List.all_eq_true.1 hE p hp) q.k hj
            rw [he] at h5
            simp only [Bool.or_eq_true, beq_iff_eq, reduceCtorEq, Option.some.injEq, false_or] at h5
            rw [h5]; exact hunf
        refine wpOp_of_list hop fun K HK => hob p hp o hop vals w hV hds K (hid fun v w' hV' hb hIv => ?_)
        have hc' := hc.set hi
        have := HK.out ((actI pl vals a0).put (some p.d) v) w' ⟨⟨trivial, fun _ => hV'⟩, ?_⟩
        · exact this
        rw [actI_put pl vals a0 hk hd hp v]
        refine ih _ _ w' ?_ (by simpa using hz) (fun j hj => ?_) hc' hV' (fun q hq hl hne => ?_)
        · have hless : (pl.filter fun q => !(listed.setIfInBounds p.k true).getD q.k false).length < (pl.filter fun q => !listed.getD q.k false).length := by
            refine filterF_less (fun q hq h => ?_) ⟨p, hp, by rw [hunf]; rfl, ?_⟩
            · by_cases e : p.k = q.k
              · rw [← e, hunf]; rfl
              · rwa [getD_set_ne false e] at h
            · have hlt : p.k < listed.size := by rw [hz]; exact (Array.getElem?_eq_some_iff.1 e1).1
              simp [Array.getD_eq_getD_getElem?, hlt]
          omega
        · rw [Array.getElem?_setIfInBounds, if_neg (by rintro rfl; exact hj hip)]
          exact ho j hj
        · show I q.k w' (if q.k = p.k then v else vals q.k)
          by_cases e : q.k = p.k
          · rw [if_pos e, e]; exact hIv
          · rw [if_neg e]
            rw [getD_set_ne false (fun e2 => e e2.symm)] at hl
            have hlt : p.k < listed.size := by rw [hz]; exact (Array.getElem?_eq_some_iff.1 e1).1
            have hpe : eat q.k ≠ some p.k := fun h5 => by
              have h6 := hne p.k h5
              rw [Array.getD_eq_getD_getElem?, Array.getElem?_setIfInBounds, if_pos rfl, if_pos hlt] at h6
              cases h6
            have hcp : cp q.k p.k = true := by
              have h5 := List.all_eq_true.1 (List.all_eq_true.1 hC q hq) p hp
              simp only [Bool.or_eq_true, beq_iff_eq] at h5
              rcases h5 with ((h5 | h5) | h5) | h5
              · exact absurd h5 e
              · have := (later_spec hc 60 p.k q.k h5 hunf).2
                rw [hl] at this; cases this
              · cases he : eat q.k with
                | none => rw [he] at h5; cases h5
                | some e' =>
                  rw [he] at h5
                  simp only [Bool.or_eq_true, beq_iff_eq] at h5
                  rcases h5 with h5 | h5
                  · exact absurd (by rw [he, h5]) hpe
                  · have h6 := hne e' he
                    have h7 : e' ≠ p.k := fun e2 => hpe (by rw [he, e2])
                    rw [getD_set_ne false (fun e2 => h7 e2.symm)] at h6
                    exact absurd hi (later_spec hc 60 e' p.k h5 h6).1
              · exact h5
            refine hI _ _ _ _ _ hcp (hIl q hq hl fun e' he' => ?_) hb
            have h6 := hne e' he'
            rwa [getD_set_ne false (fun e2 => hpe (by rw [he', e2]))] at h6
def seqJ (P : Program) (ops : Array Oper) (Q : Exit → Act → World → Prop) (V : World → Prop) (R : Nat → World → World → Prop) (eat : Nat → Option Nat) (I : Nat → World → Value → Prop) (pl : List FlI) (ts2 : List (Nat × Nat)) (os2 : List Oper) : List Oper → Act → Prop
  | o :: os, a => ∃ v, (∀ w, V w → (execOp a.eval o).run P w = .ok (.value v) w) ∧ seqJ P ops Q V R eat I pl ts2 os2 os (a.put o.dst v)
  | [], a => (∀ p ∈ pl, ∀ o, ops[p.k]? = some o → ObJ P ops V R I pl a p o) ∧ ∀ vals w, V w → (∀ p ∈ pl, eat p.k = none → I p.k w (vals p.k)) → seqH P ops Q (fun _ => True) V ts2 os2 (actI pl vals a) w
theorem seqJ_q {V : World → Prop} {R : Nat → World → World → Prop} {eat : Nat → Option Nat} {I : Nat → World → Value → Prop} {pl : List FlI} {ts2 : List (Nat × Nat)} {os2 : List Oper} {o : Oper} {os : List Oper} {a : Act} {v : Value} (hy : ∀ w, V w → (execOp a.eval o).run P w = .ok (.value v) w) (h : seqJ P ops Q V R eat I pl ts2 os2 os (a.put o.dst v)) : seqJ P ops Q V R eat I pl ts2 os2 (o :: os) a := ⟨v, hy, h⟩
theorem wpAnyJ_pre (hsel : Region.noSelect ops = true) (hQ : ∀ c (a : Act) dst v w, Q (.panic c) (a.put dst v) w → Q (.panic c) a w) {g : Nat} {V : World → Prop} (I : Nat → World → Value → Prop)
    (R : Nat → World → World → Prop) (eat : Nat → Option Nat) (cp : Nat → Nat → Bool) (hI : ∀ i j w w' v, cp i j = true → I i w v → R j w w' → I i w' v) (pl : List FlI) (ts2 : List (Nat × Nat × Nat)) (os2 : List Oper) (hos2 : os2.map some = ts2.map (fun t => ops[t.1]?)) (hE : (pl.all fun p => p.ds.all fun j => eat j == none || eat j == some p.k) = true) (hC : cmpJ md ops eat pl cp = true) (ks : List Nat) : ∀ (os : List Oper) (base : Array Bool) (a : Act) (w : World),
    os.map some = ks.map (fun k => ops[k]?) → planQ md ops g pl ts2 ks base = true → ClosedL md ops base → V w → seqJ P ops Q V R eat I pl (ts2.map (·.2)) os2 os a → wpAnyG P md ops Q (fun _ => True) V g (ks.length + pl.length + ts2.length) base a w := by
  induction ks with
  | nil =>
    intro os base a w hl hB hc hV h
    cases os with
    | cons o os => simp at hl
    | nil =>
      unfold planQ at hB
      rw [Bool.and_eq_true] at hB
      obtain ⟨h1, h2⟩ := h
      have hB1 := hB.1
      unfold planI at hB1
      simp only [Bool.and_eq_true, decide_eq_true_eq] at hB1
      obtain ⟨vals, hv⟩ := actI_self pl a (nodupB_spec hB1.1.1.1.1)
      have := wpAnyJ_inv (md := md) (g := g) (Q := Q) hsel hQ I R eat cp hI pl ts2 os2 hos2 base hE hC hB.1 hB.2 a h1 h2 pl.length base vals w (List.length_filter_le _ _) rfl (fun _ _ => rfl) hc hV (fun p hp hl _ => by
        have h4 := List.all_eq_true.1 hB1.1.1.2 p hp
        simp only [Bool.and_eq_true, beq_iff_eq] at h4
        have h5 := h4.1.1.1.1
        rw [getD_of hl] at h5
        cases h5)
      rw [hv] at this
      simpa using this
  | cons k ks ih =>
    intro os base a w hl hB hc hV h
    cases os with
    | nil => simp at hl
    | cons o os =>
      rw [List.map_cons, List.map_cons] at hl
      obtain ⟨hi0, hl'⟩ := List.cons.inj hl
      have hi : ops[k]? = some o := hi0.symm
      unfold planQ at hB
      obtain ⟨hB1, hB2⟩ := (Bool.and_eq_true _ _).mp hB
      simp only [Bool.and_eq_true, Bool.not_eq_true', beq_eq_false_iff_ne] at hB1
      obtain ⟨⟨⟨⟨h3, h4⟩, h5⟩, h6⟩, h8⟩ := hB1
      rw [hi] at h6
      obtain ⟨v, hy, h⟩ := h
      have h4' : k ∈ Region.ready md ops base := List.contains_iff_mem.1 h4
      rw [show (k :: ks).length + pl.length + ts2.length = (ks.length + pl.length + ts2.length) + 1 by simp; omega]
      exact wpAnyG_first hi (Region.noSelect_spec hsel) (fun c a w h => hQ c _ _ _ w h) h5 V (fun _ _ hc hl hA => hA.2 (later_spec hc 60 k g h8 hl).2) _ base a w hc (Region.free_spec hi h3) h4' (Or.inl ⟨wanted_none h6, hy⟩) ⟨trivial, fun _ => hV⟩ (ih os _ _ w hl' hB2 (hc.set h4') hV h)
theorem wp_region_eat {id : Nat} {l : List Oper} {a : Act} {w : World} (V : World → Prop) (R : Nat → World → World → Prop) (eat : Nat → Option Nat) (I : Nat → World → Value → Prop) (g : Nat) (ks : List Nat) (pl : List FlI) (ts2 : List (Nat × Nat × Nat)) (hm : P.follows .mixedOrders = true) (hlen : ks.length + pl.length + ts2.length = l.length)
    (hin : (ks.all fun t => decide (t < l.length)) = true) (hin2 : (ts2.all fun t => decide (t.1 < l.length)) = true) (hB : (Region.noSelect l.toArray && planQ .any l.toArray g pl ts2 ks (Array.replicate l.length false)) = true)
    (hQ : ∀ c (a : Act) dst v w, Q (.panic c) (a.put dst v) w → Q (.panic c) a w) (cp : Nat → Nat → Bool) (hE : (pl.all fun p => p.ds.all fun j => eat j == none || eat j == some p.k) = true) (hC : cmpJ .any l.toArray eat pl cp = true) (hI : ∀ i j w w' v, cp i j = true → I i w v → R j w w' → I i w' v) (hV : V w.drew)
    (h0 : ∀ ops', Hid (ops' = l.toArray) → seqJ P ops' Q V R eat I pl (ts2.map (·.2)) (ts2.filterMap fun t => l[t.1]?) (ks.filterMap fun t => l[t]?) a) : (Code.region id l.toArray true).wp P Q a w := by
  have h := h0 l.toArray (hid rfl)
  rw [Bool.and_eq_true] at hB
  refine wp_region_any hm (wpAny_of_G (V := fun _ => True) (X := V) (g := g) _ _ _ _ ?_)
  have := wpAnyJ_pre (md := .any) (Q := Q) (P := P) (g := g) hB.1 hQ I R eat cp hI pl ts2 _ (picksH ts2 hin2) hE hC ks _ (Array.replicate l.length false) a w.drew (picksI ks hin) hB.2
    (show ClosedL _ _ (Array.replicate l.length false) from fun j oj _ hl => by
      rw [Array.getD_eq_getD_getElem?, Array.getElem?_replicate] at hl
      split at hl <;> cases hl) hV h
  rw [hlen] at this
  have e : l.toArray.size = l.length := by simp
  rw [e]
  exact this
theorem obsJ_nil {V : World → Prop} {R : Nat → World → World → Prop} {I : Nat → World → Value → Prop} {all : List FlI} {a : Act} : ∀ p ∈ ([] : List FlI), ∀ o, ops[p.k]? = some o → ObJ P ops V R I all a p o := fun _ h => by cases h
theorem obsJ_cons {V : World → Prop} {R : Nat → World → World → Prop} {I : Nat → World → Value → Prop} {all r : List FlI} {a : Act} {p : FlI} {o : Oper} (hp : ops[p.k]? = some o) (h1 : ObJ P ops V R I all a p o) (h : ∀ p ∈ r, ∀ o, ops[p.k]? = some o → ObJ P ops V R I all a p o) : ∀ q ∈ p :: r, ∀ o, ops[q.k]? = some o → ObJ P ops V R I all a q o := by
  intro q hq o' ho
  rcases List.mem_cons.1 hq with rfl | hq
  · rw [hp] at ho
    cases ho
    exact h1
  · exact h q hq o' ho
end Go.Proofs.YtaefpjecalnbcaaGreat
namespace Go.Proofs.YtaefpjecalnbcaaGreat
open Go.RowKit
structure GrowT (n0 : Nat) (T : TypeId) (w w' : World) : Prop where
  below : Below n0 w w'
  other : ∀ (b : Nat) (cur : Array Value) (T' : TypeId), w.heap[b]? = some (Obj.cells cur T' (0, 0)) → T' ≠ T → w'.heap[b]? = w.heap[b]?
theorem growT_lit {n0 : Nat} {T : TypeId} {w : World} (h0 : n0 ≤ w.heap.size) : GrowT n0 T w (w.alloc (.cells #[] T)) ∧ (w.alloc (.cells #[] T)).ownsRow n0 T 1 (.slice (some ⟨w.heap.size, 0, none⟩) 0 0) 0 [] ∧ (w.alloc (.cells #[] T)).ownsRow n0 T 2 (.slice (some ⟨w.heap.size, 0, none⟩) 0 0) 0 [] :=
  ⟨⟨(Below.refl _ _).alloc h0 _, fun b cur T' hb _ => Below.heap_alloc w _ b (Array.getElem?_eq_some_iff.1 hb).1⟩, World.ownsRow_lit w #[] 0 h0 (by decide) rfl, World.ownsRow_lit w #[] 0 h0 (by decide) rfl⟩
theorem growT_app {n0 : Nat} {w : World} (t e : TypeId) (z : Value) (size bytes : Nat) (ht : Tryz.prog.underlying t = some (.slice e)) (hinfo : (Tryz.prog.info? e).map (fun i => (i.zero, i.size, i.bytes)) = some (some z, size, bytes))
    (hzs : z.cells.size = size) (hsz : 0 < size) {v x : Value} {n m : Nat} {xs news : List Value} (hown : w.ownsRow n0 e size v n xs) (hx : Seg w x size m news) (h1 : ∀ u ∈ news, u.oneCell' = true) (hlen : n + m ≤ 1099511627776) (hby : bytes ≤ 120) (h0 : n0 ≤ w.heap.size) :
    ∃ a c w', (Builtin.append_ #[t, t] t #[v, x]).run Tryz.prog w = .ok (.slice a (n + m) c) w' ∧ w'.ownsRow n0 e size (.slice a (n + m) c) (n + m) (xs ++ news) ∧ GrowT n0 e w w' := by
  have hby2 : (n + m) * bytes ≤ 140737488355328 := Nat.le_trans (Nat.mul_le_mul hlen hby) (by decide)
  obtain ⟨v', w', hr, hO, hg, -⟩ := seg_append (P := Tryz.prog) w n0 t t e z size bytes ht hinfo hzs hsz v x n m xs news hown hx h1 (by omega) hby2 h0
  have hv' : ∃ a c, v' = .slice a (n + m) c := by
    rcases hO.2 with ⟨rfl, e⟩ | ⟨g, cap, cur, rfl, -⟩
    · exact ⟨none, 0, by rw [e]⟩
    · exact ⟨_, _, rfl⟩
  obtain ⟨a, c, rfl⟩ := hv'
  refine ⟨a, c, w', hr, hO, (Below.refl _ _).grown hg h0 fun q e => (World.ownsRow.lt hown q e).1, fun b cur T' hb hT => hg.block b (Array.getElem?_eq_some_iff.1 hb).1 fun e => ?_⟩
  rcases hown.2 with ⟨rfl, -⟩ | ⟨g, cap, cur2, rfl, -, hg2, -⟩
  · cases e
  · injection e with e
    subst e
    replace hg2 : w.heap[b]? = _ := hg2
    rw [hb] at hg2
    injection hg2 with hg2
    injection hg2 with _ h2 _
    exact hT h2
theorem row_other {n0 size n : Nat} {T e : TypeId} {w w' : World} {v : Value} {xs : List Value} (h : w.ownsRow n0 e size v n xs) (hg : GrowT n0 T w w') (hne : e ≠ T) : w'.ownsRow n0 e size v n xs :=
  row_keep h fun b cur _ hb => hg.other b cur e hb hne
def CatI (n0 : Nat) (a b c : List Value) (a2 b2 c2 : List Value) (n m k n2 m2 k2 : Nat) : Nat → World → Value → Prop
  | 2, w, v => w.ownsRow n0 63 1 v 0 []
  | 5, w, v => ∃ g z, v = .slice g n z ∧ w.ownsRow n0 63 1 v n a
  | 8, w, v => ∃ g z, v = .slice g (n + n2) z ∧ w.ownsRow n0 63 1 v (n + n2) (a ++ a2)
  | 9, w, v => w.ownsRow n0 9 1 v 0 []
  | 12, w, v => ∃ g z, v = .slice g m z ∧ w.ownsRow n0 9 1 v m b
  | 15, w, v => ∃ g z, v = .slice g (m + m2) z ∧ w.ownsRow n0 9 1 v (m + m2) (b ++ b2)
  | 16, w, v => w.ownsRow n0 35 2 v 0 []
  | 19, w, v => ∃ g z, v = .slice g k z ∧ w.ownsRow n0 35 2 v k c
  | 22, w, v => ∃ g z, v = .slice g (k + k2) z ∧ w.ownsRow n0 35 2 v (k + k2) (c ++ c2)
  | _, _, _ => True
def catT (j : Nat) : TypeId := if j ≤ 8 then 63 else if j ≤ 15 then 9 else 35
def catC (i j : Nat) : Bool := !(catT i == catT j)
def catE : Nat → Option Nat
  | 2 => some 5
  | 5 => some 8
  | 9 => some 12
  | 12 => some 15
  | 16 => some 19
  | 19 => some 22
  | _ => none
theorem CatI.keep {n0 : Nat} {a b c a2 b2 c2 : List Value} {n m k n2 m2 k2 : Nat} : ∀ (i j : Nat) (w w' : World) (v : Value), catC i j = true → CatI n0 a b c a2 b2 c2 n m k n2 m2 k2 i w v → GrowT n0 (catT j) w w' → CatI n0 a b c a2 b2 c2 n m k n2 m2 k2 i w' v := by
  intro i j w w' v hc h hg
  have hne : catT i ≠ catT j := by
    unfold catC at hc
    intro e
    rw [e] at hc
    simp at hc
  unfold CatI at h ⊢
  split
  · exact row_other h hg hne
  · obtain ⟨g, z, e, h⟩ := h; exact ⟨g, z, e, row_other h hg hne⟩
  · obtain ⟨g, z, e, h⟩ := h; exact ⟨g, z, e, row_other h hg hne⟩
  · exact row_other h hg hne
  · obtain ⟨g, z, e, h⟩ := h; exact ⟨g, z, e, row_other h hg hne⟩
  · obtain ⟨g, z, e, h⟩ := h; exact ⟨g, z, e, row_other h hg hne⟩
  · exact row_other h hg hne
  · obtain ⟨g, z, e, h⟩ := h; exact ⟨g, z, e, row_other h hg hne⟩
  · obtain ⟨g, z, e, h⟩ := h; exact ⟨g, z, e, row_other h hg hne⟩
  · trivial
def StrI (n0 : Nat) (b b2 : List Value) (m m2 : Nat) : Nat → World → Value → Prop
  | 0, w, v => w.ownsRow n0 9 1 v 0 []
  | 3, w, v => ∃ g z, v = .slice g m z ∧ w.ownsRow n0 9 1 v m b
  | 6, w, v => ∃ g z, v = .slice g (m + m2) z ∧ w.ownsRow n0 9 1 v (m + m2) (b ++ b2)
  | _, _, _ => True
def strE : Nat → Option Nat
  | 0 => some 3
  | 3 => some 6
  | _ => none
theorem cat_val {d n0 : Nat} {w0 w7 : World} {num : Int} {g1 g2 g3 : Option Addr} {z1 z2 z3 : Nat} {lw lw2 : List Nat} {lt lt2 : List (List UInt8)} {ls ls2 : List (M d)} {r1 r2 : List (List Value)} (hn : -9223372036854775808 ≤ num ∧ num ≤ 9223372036854775807)
    (h1 : w7.ownsRow n0 63 1 (.slice g1 (lw.length + lw2.length) z1) (lw.length + lw2.length) (lw.map wordV ++ lw2.map wordV)) (h2 : w7.ownsRow n0 9 1 (.slice g2 (lt.length + lt2.length) z2) (lt.length + lt2.length) (lt.map strV ++ lt2.map strV)) (h3 : w7.ownsRow n0 35 2 (.slice g3 (ls.length + ls2.length) z3) (ls.length + ls2.length) (r1.flatten ++ r2.flatten))
    (b1 : ∀ x ∈ lw ++ lw2, x < 2 ^ 64) (b2 : ∀ x ∈ lt ++ lt2, x.length ≤ 140737488355328) (hl : lw.length + lw2.length ≤ 1099511627776 ∧ lt.length + lt2.length ≤ 1099511627776 ∧ ls.length + ls2.length ≤ 1099511627776) (x1 : r1.length = ls.length) (x2 : ∀ r ∈ r1, r.length = 2) (x3 : ∀ (i : Nat) (r : List Value) (x : M d), r1[i]? = some r → ls[i]? = some x → MsgAt d w0 (.agg r.toArray) x)
    (y1 : r2.length = ls2.length) (y2 : ∀ r ∈ r2, r.length = 2) (y3 : ∀ (i : Nat) (r : List Value) (x : M d), r2[i]? = some r → ls2[i]? = some x → MsgAt d w0 (.agg r.toArray) x) {W : World} (hk : ∀ b, n0 ≤ b → b < w7.heap.size → W.heap[b]? = w7.heap[b]?) (hk0 : ∀ p u, w0.cell? p = some u → W.cell? p = some u) :
    ValAt (MsgAt d) W (.agg #[.int .i64 num, .slice g1 (lw.length + lw2.length) z1, .slice g2 (lt.length + lt2.length) z2, .slice g3 (ls.length + ls2.length) z3]) (⟨num, lw ++ lw2, lt ++ lt2, ls ++ ls2⟩ : Val (M d)) := by
  refine ⟨_, _, _, rfl, hn, ⟨?_, b1⟩, ⟨?_, b2⟩, r1 ++ r2, by rw [List.length_append, List.length_append, x1, y1], fun r hr => (List.mem_append.1 hr).elim (x2 r) (y2 r), ?_, fun i r x hr hx => ?_⟩
  · have := row_seg (row_keep h1 fun b _ hb he => hk b hb (Array.getElem?_eq_some_iff.1 he).1) (by omega)
    rw [List.length_append, List.map_append]
    exact this
  · have := row_seg (row_keep h2 fun b _ hb he => hk b hb (Array.getElem?_eq_some_iff.1 he).1) (by omega)
    rw [List.length_append, List.map_append]
    exact this
  · have := row_seg (row_keep h3 fun b _ hb he => hk b hb (Array.getElem?_eq_some_iff.1 he).1) (by omega)
    rw [List.length_append, List.flatten_append]
    exact this
  · rcases Nat.lt_or_ge i ls.length with hlt | hge
    · rw [List.getElem?_append_left (by omega)] at hr hx
      exact (x3 i r x hr hx).keep hk0
    · rw [List.getElem?_append_right (by omega)] at hr hx
      rw [x1] at hr
      exact (y3 _ r x hr hx).keep hk0
theorem wordV_one (l : List Nat) : ∀ u ∈ l.map wordV, u.oneCell' = true := by
  intro u hu
  obtain ⟨t, -, rfl⟩ := List.mem_map.1 hu
  rfl
theorem strV_one (l : List (List UInt8)) : ∀ u ∈ l.map strV, u.oneCell' = true := by
  intro u hu
  obtain ⟨t, -, rfl⟩ := List.mem_map.1 hu
  rfl
theorem rows_one {d : Nat} {w0 : World} {rows : List (List Value)} {l : List (M d)} (hl : rows.length = l.length) (h : ∀ (i : Nat) (r : List Value) (x : M d), rows[i]? = some r → l[i]? = some x → MsgAt d w0 (.agg r.toArray) x) : ∀ u ∈ rows.flatten, u.oneCell' = true := by
  intro u hu
  obtain ⟨r, hr, hur⟩ := List.mem_flatten.1 hu
  obtain ⟨i, hi⟩ := List.mem_iff_getElem?.1 hr
  have hil : i < l.length := by rw [← hl]; exact (List.getElem?_eq_some_iff.1 hi).1
  obtain ⟨b1, m1, c1, b2, m2, c2, e⟩ := (h i r _ hi (List.getElem?_eq_getElem hil)).form
  injection e with e
  have e2 : r = [.slice b1 m1 c1, .slice b2 m2 c2] := by
    have := congrArg Array.toList e
    simpa using this
  rw [e2] at hur
  simp at hur
  rcases hur with rfl | rfl <;> rfl
end Go.Proofs.YtaefpjecalnbcaaGreat
namespace Go.Proofs.YtaefpjecalnbcaaGreat
open Go.RowKit
end Go.Proofs.YtaefpjecalnbcaaGreat
namespace Go.Proofs.YtaefpjecalnbcaaGreat
open Go.RowKit
end Go.Proofs.YtaefpjecalnbcaaGreat
