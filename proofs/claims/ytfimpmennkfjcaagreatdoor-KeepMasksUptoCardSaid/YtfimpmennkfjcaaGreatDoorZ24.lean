/- Plain laws: a field's value, of valid records, fits it. No condition. Plain laws: a right schema's numbers; the meaning of valid bytes is right (tof_right). No condition. Plain laws: a record that is put is read (rnext_rput, vlook_rput); its bytes told as records (arecs_rput). No condition. Plain laws: a number's bytes are read back (kread_kput), a run of them too (runWords_kpack). No condition. tree.Fits, tree.right, tree.Right: fitsB, rightB, for each depth. The meaning's weight is at most 2^40. tree.right, tree.Right: rightB, for each depth. The meaning's weight is at most 2^40. darningref14.Many, Fits: fitsB, where Right tells rightB of the messages in it. The value's weight is at most 2^40. darningref14.Right: rightB, for each depth, where the schema is right; darningref13.Args, darningref15.May of one meaning. The meaning's weight is at most 2^40. tree.Right; darningref13.Args, darningref15.May of one meaning: mayCode. The meaning's weight is at most 2^40. -/
import Derived.Test.YtfimpmennkfjcaaGreatDoorZ19
import Derived.Test.YtfimpmennkfjcaaGreatDoorZ20
import Derived.Test.YtfimpmennkfjcaaGreatDoorZ22
import Derived.Test.YtfimpmennkfjcaaGreatDoorZ23
import Derived.StillTailTactics
import Derived.BigQuiet
namespace Go.Proofs.YtfimpmennkfjcaaGreatDoor
open Go.RowKit
theorem counts_sub {α : Type} (f : Fld) (l : List α) {x : α} (h : x ∈ counts f l) : x ∈ l := by
  unfold counts at h
  split at h
  · exact h
  · exact lastOf_sub l h
theorem counts_len {α : Type} {f : Fld} (hf : f.rep = false) (l : List α) : (counts f l).length ≤ 1 := by
  unfold counts
  rw [if_neg (by simp [hf])]
  unfold lastOf
  rw [List.length_drop]; omega
theorem pieceW_len {f : Fld} {l : List UInt8} {x : VW} (h : x.run = false) : (pieceW f l x).length ≤ 1 := by
  unfold pieceW
  rw [if_neg (by simp [h])]
  split <;> simp
theorem pieceB_len {f : Fld} {l : List UInt8} {x : VW} : (pieceB f l x).length ≤ 1 := by
  unfold pieceB
  split <;> simp
theorem flat_len {α β : Type} (g : α → List β) : ∀ (l : List α), l.length ≤ 1 → (∀ x ∈ l, (g x).length ≤ 1) → (l.flatMap g).length ≤ 1
  | [], _, _ => by simp
  | [x], _, h => by simpa using h x (by simp)
  | _ :: _ :: _, h, _ => by simp at h
theorem words_canon {f : Fld} {l : List UInt8} {x : VW} {w : Nat} (h : w ∈ pieceW f l x) : kcanon f.kind w = w := by
  unfold pieceW at h
  split at h
  · unfold runWords at h
    split at h
    · unfold kwords at h
      obtain ⟨y, -, rfl⟩ := List.mem_map.1 h
      exact kread_canon _ _
    · simp at h
  · split at h
    · simp at h; subst h; exact kread_canon _ _
    · simp at h
theorem flat_nil {α β : Type} (g : α → List β) (l : List α) (h : ∀ x ∈ l, g x = []) : l.flatMap g = [] := by
  rw [List.flatMap_eq_nil_iff]; exact h
/-- what is asked of a field's records -/
structure FieldRecs (R : Int → List UInt8 → Prop) (f : Fld) (l : List UInt8) (xs : List VW) : Prop where
  kind : kright f.kind = true
  run : ∀ x ∈ xs, x.run = true → f.rep = true ∧ knumber f.kind = true
  text : f.kind = 15 → ∀ x ∈ xs, ufirst (vbytes l x) = (vbytes l x).length
  sub : f.kind = 17 → (∀ x ∈ xs, R f.of (vbytes l x)) ∧ (f.rep = false → xs ≠ [] → R f.of (xs.flatMap (vbytes l)))
theorem fieldV_fits {α : Type} {R : Int → List UInt8 → Prop} {B : Int → α → Bool} {sub : Int → List UInt8 → List α} {f : Fld} {l : List UInt8} {xs : List VW} (h : FieldRecs R f l xs)
    (hR : ∀ b, R f.of b → ∃ y, sub f.of b = [y] ∧ B f.of y = true) (hm : 0 < many (fieldV sub f l xs)) : fitsB B f (fieldV sub f l xs) = true := by
  have hrun : f.rep = false ∨ knumber f.kind = false → ∀ x ∈ xs, x.run = false := by
    intro h1 x hx
    cases hr : x.run with
    | false => rfl
    | true =>
      obtain ⟨h2, h3⟩ := h.run x hx hr
      rcases h1 with h1 | h1
      · rw [h2] at h1; cases h1
      · rw [h3] at h1; cases h1
  have hW : knumber f.kind = false → (fieldV sub f l xs).words = [] := by
    intro hk
    refine flat_nil _ _ fun x hx => ?_
    unfold pieceW
    rw [if_neg (by rw [hrun (.inr hk) x (counts_sub f xs hx)]; decide), if_neg (by rw [hk]; decide)]
  have hT : knumber f.kind = true ∨ f.kind = 17 → (fieldV sub f l xs).texts = [] := by
    intro hk
    unfold fieldV
    simp only
    by_cases h17 : f.kind = 17
    · rw [if_pos h17]
    · rw [if_neg h17]
      refine flat_nil _ _ fun x hx => ?_
      unfold pieceB
      rw [if_pos (.inr (by rcases hk with hk | hk; exact hk; exact absurd hk h17))]
  have hS : f.kind ≠ 17 → (fieldV sub f l xs).subs = [] := by
    intro hk
    unfold fieldV
    simp only
    rw [if_neg hk]
  have hone : f.rep = false → many (fieldV sub f l xs) ≤ 1 := by
    intro hr
    unfold many
    cases hk : knumber f.kind with
    | true =>
      have h17 : f.kind ≠ 17 := by intro e; rw [e] at hk; simp [knumber] at hk
      rw [hT (.inl hk), hS h17]
      have := flat_len (pieceW f l) (counts f xs) (counts_len hr xs) (fun x hx => pieceW_len (hrun (.inl hr) x (counts_sub f xs hx)))
      simpa [fieldV] using this
    | false =>
      rw [hW hk]
      by_cases h17 : f.kind = 17
      · rw [hT (.inr h17)]
        unfold fieldV
        simp only
        rw [if_pos h17, if_neg (by simp [hr])]
        split
        · simp
        · rename_i hx
          obtain ⟨y, e, -⟩ := hR _ ((h.sub h17).2 hr hx)
          rw [e]; simp
      · rw [hS h17]
        have := flat_len (pieceB f l) (counts f xs) (counts_len hr xs) (fun x _ => pieceB_len)
        unfold fieldV
        simp only
        rw [if_neg h17]
        simpa using this
  unfold fitsB
  have hmany : (fieldV sub f l xs).words.length + (fieldV sub f l xs).texts.length + (fieldV sub f l xs).subs.length = many (fieldV sub f l xs) := rfl
  rw [if_neg (by
    rw [hmany]
    rintro (h1 | ⟨h1, h2⟩)
    · omega
    · have := hone h2; omega)]
  cases hk : knumber f.kind with
  | true =>
    have h17 : f.kind ≠ 17 := by intro e; rw [e] at hk; simp [knumber] at hk
    rw [if_pos rfl, hT (.inl hk), hS h17]
    simp only [List.length_nil, and_self, decide_true, Bool.true_and, List.all_eq_true, decide_eq_true_eq]
    intro w hw
    obtain ⟨x, -, hx⟩ := List.mem_flatMap.1 (show w ∈ (counts f xs).flatMap (pieceW f l) from hw)
    exact words_canon hx
  | false =>
    rw [if_neg (by decide), hW hk]
    by_cases h17 : f.kind = 17
    · rw [if_pos h17, hT (.inr h17)]
      simp only [List.length_nil, and_self, decide_true, Bool.true_and, List.all_eq_true]
      intro y hy
      unfold fieldV at hy
      simp only at hy
      rw [if_pos h17] at hy
      split at hy
      · obtain ⟨x, hx, hxy⟩ := List.mem_flatMap.1 hy
        obtain ⟨z, e, hz⟩ := hR _ ((h.sub h17).1 x hx)
        rw [e] at hxy
        simp at hxy; subst hxy; exact hz
      · rename_i hr
        split at hy
        · simp at hy
        · rename_i hx
          obtain ⟨z, e, hz⟩ := hR _ ((h.sub h17).2 (by simpa using hr) hx)
          rw [e] at hy
          simp at hy; subst hy; exact hz
    · rw [if_neg h17, hS h17]
      by_cases h15 : f.kind = 15
      · rw [if_pos h15]
        simp only [List.length_nil, and_self, decide_true, Bool.true_and, List.all_eq_true, decide_eq_true_eq]
        intro t ht
        unfold fieldV at ht
        simp only at ht
        rw [if_neg h17] at ht
        obtain ⟨x, hx, hxt⟩ := List.mem_flatMap.1 ht
        unfold pieceB at hxt
        split at hxt
        · simp at hxt
        · simp at hxt; subst hxt
          exact h.text h15 x (counts_sub f xs hx)
      · rw [if_neg h15]
        have h16 : f.kind = 16 := by
          have h1 := h.kind
          unfold kright at h1
          unfold knumber at hk
          simp at h1 hk
          omega
        simp [h16]
end Go.Proofs.YtfimpmennkfjcaaGreatDoor
namespace Go.Proofs.YtfimpmennkfjcaaGreatDoor
open Go.RowKit
theorem fault_num {n : Nat} {nm nu : Bool} {f : Fld} (h : fieldFault n nm nu f = 0) : nu = false ∧ numOk f.number = true := by
  unfold fieldFault at h
  by_cases h1 : nameOk f.name = false
  · rw [if_pos h1] at h; cases h
  rw [if_neg h1] at h
  cases nm with
  | true => simp at h
  | false =>
    rw [if_neg (by decide)] at h
    cases h2 : numOk f.number with
    | false => rw [if_pos h2] at h; cases h
    | true =>
      rw [if_neg (by rw [h2]; decide)] at h
      cases nu with
      | true => simp at h
      | false => exact ⟨rfl, rfl⟩
theorem fault_at {n : Nat} {fs : List Fld} : ∀ (k j : Nat), j = fs.length - k → fieldsFault n (fs.take k) (fs.drop k) k = none → ∀ i, k ≤ i → i < fs.length → numMet (fs.take i) (fs.getD i .zero).number = false ∧ numOk (fs.getD i .zero).number = true
  | k, 0, hj, _, i, h1, h2 => by omega
  | k, j + 1, hj, h, i, h1, h2 => by
    rw [fieldsFault_at n fs k (by omega)] at h
    by_cases hc : fieldFault n (nameMet (fs.take k) (fs.getD k .zero).name) (numMet (fs.take k) (fs.getD k .zero).number) (fs.getD k .zero) = 0
    · rw [if_pos hc] at h
      by_cases hik : i = k
      · subst hik; exact fault_num hc
      · exact fault_at (k + 1) j (by omega) h i (by omega) h2
    · rw [if_neg hc] at h; cases h
theorem schema_nums {s : List Mes} (h : sright s = true) (m : Nat) (hm : m < s.length) (i : Nat) (hi : i < (s.getD m .zero).fields.length) :
    numMet ((s.getD m .zero).fields.take i) ((s.getD m .zero).fields.getD i .zero).number = false ∧ numOk ((s.getD m .zero).fields.getD i .zero).number = true := by
  have h0 : (scheck s).2.2 = 0 := of_decide_eq_true h
  unfold scheck at h0
  by_cases h1 : s.length = 0 ∨ 100 < s.length
  · rw [if_pos h1] at h0; simp at h0
  rw [if_neg h1] at h0
  have hmem : s.getD m .zero ∈ s := by
    have : s.getD m .zero = s[m] := by simp [List.getD, hm]
    rw [this]; exact List.getElem_mem hm
  obtain ⟨h2, -, -⟩ := scheckGo_ok s [] 0 h0 _ hmem
  exact fault_at 0 _ rfl (by simpa using h2) i (by omega) hi
theorem firstAt_first (p : Fld → Bool) (fs : List Fld) (q : Nat) (hq : q < fs.length) (hp : p (fs.getD q .zero) = true) (hb : ∀ j, j < q → p (fs.getD j .zero) = false) :
    ∀ (j k : Nat), k + j = q → firstAt p (fs.drop k) k = (q : Int)
  | 0, k, h => by
    obtain rfl : k = q := by omega
    rw [firstAt_at p fs k hq, hp, if_pos rfl]
  | j + 1, k, h => by
    rw [firstAt_at p fs k (by omega), hb k (by omega), if_neg (by decide)]
    exact firstAt_first p fs q hq hp hb j (k + 1) (by omega)
/-- numbers of a message of a right schema -/
structure Nums (fs : List Fld) : Prop where
  met : ∀ i, i < fs.length → numMet (fs.take i) (fs.getD i .zero).number = false
  pos : ∀ i, i < fs.length → 1 ≤ (fs.getD i .zero).number
theorem schema_Nums {s : List Mes} (h : sright s = true) (m : Nat) (hm : m < s.length) : Nums (s.getD m .zero).fields :=
  ⟨fun i hi => (schema_nums h m hm i hi).1, fun i hi => (of_decide_eq_true (schema_nums h m hm i hi).2).1⟩
theorem Nums.ne {fs : List Fld} (h : Nums fs) {i j : Nat} (hij : i < j) (hj : j < fs.length) : (fs.getD i .zero).number ≠ (fs.getD j .zero).number := by
  intro e
  have h1 := h.met j hj
  unfold numMet at h1
  rw [List.any_eq_false] at h1
  have hi : i < fs.length := by omega
  have h2 := h1 (fs.getD i .zero) (by
    have e2 : fs.getD i .zero = fs[i] := by simp [List.getD, hi]
    rw [e2]
    exact List.mem_take_iff_getElem.2 ⟨i, by omega, rfl⟩)
  exact h2 (decide_eq_true e)
theorem Nums.at {fs : List Fld} (h : Nums fs) {q : Nat} (hq : q < fs.length) : fieldAt fs (fs.getD q .zero).number = q := by
  have := firstAt_first (fun f => decide (f.number = (fs.getD q .zero).number)) fs q hq (decide_eq_true rfl) (fun j hj => decide_eq_false (h.ne hj hq)) q 0 (by omega)
  rw [List.drop_zero] at this
  exact this
theorem Nums.lt {fs : List Fld} (h : Nums fs) {i j : Int} (hi : 0 ≤ i ∧ i < fs.length) (hj : 0 ≤ j ∧ j < fs.length) (ha : Ahead fs i j) : numAt fs i < numAt fs j := by
  rcases ha with ha | ⟨h1, h2⟩
  · exact ha
  · exact absurd h1 (h.ne (i := i.toNat) (j := j.toNat) (by omega) (by omega))
theorem valsB_ok {α : Type} {F : Fld → Val α → Bool} {fs : List Fld} (h : Nums fs) {FV : Int → Val α} (hn : ∀ i, (FV i).num = numAt fs i) :
    ∀ (ords : List Int) (last : Int), (∀ i ∈ ords, (0 ≤ i ∧ i < fs.length) ∧ last < numAt fs i ∧ (0 < many (FV i) → F (fs.getD i.toNat .zero) (FV i) = true)) → ords.Pairwise (Ahead fs) →
      valsB F fs ((ords.map FV).filter fun v => decide (0 < many v)) last = true
  | [], _, _, _ => rfl
  | i :: r, last, h1, h2 => by
    obtain ⟨g1, g2, g3⟩ := h1 i (by simp)
    rw [List.pairwise_cons] at h2
    rw [List.map_cons, List.filter_cons]
    have ih : ∀ last', last' ≤ numAt fs i → valsB F fs ((r.map FV).filter fun v => decide (0 < many v)) last' = true := fun last' hl => by
      refine valsB_ok h hn r last' (fun j hj => ?_) h2.2
      obtain ⟨k1, k2, k3⟩ := h1 j (by simp [hj])
      have := h.lt g1 k1 (h2.1 j hj)
      exact ⟨k1, by omega, k3⟩
    by_cases hm : 0 < many (FV i)
    · rw [if_pos (by simpa using hm), valsB, hn]
      have hat : fieldAt fs (numAt fs i) = i := by
        unfold numAt
        rw [h.at (by omega)]; omega
      rw [hat, if_neg]
      · exact ih _ (Int.le_refl _)
      · rintro (e | e | e)
        · omega
        · omega
        · rw [g3 hm] at e; cases e
    · rw [if_neg (by simpa using hm)]
      exact ih _ (by omega)
theorem ViewOk.unknown {s : List Mes} {d m : Nat} {l : List UInt8} {x : VW} (h : ViewOk s d m l x) (hk : x.k < 0) : rnext l x.r.start = (x.r, 0) ∧ fieldAt (s.getD m .zero).fields x.r.number < 0 := by
  obtain ⟨j, hj⟩ := h.look
  rcases vlook_cases (s.getD m .zero).fields l j with ⟨c, hc, e, -⟩ | ⟨r, h1, h2, h3, h4, h5, e | ⟨k, run, hk', e, -, h6, h7⟩⟩
  · rw [e] at hj
    exact absurd (congrArg (fun t => t.2.2.2) hj) (by simpa using hc)
  · have e1 : r = x.r := by rw [e] at hj; exact congrArg Prod.fst hj
    subst e1
    rw [h1]
    refine ⟨h5, ?_⟩
    refine Decidable.byContradiction fun hn => ?_
    unfold vlook at e
    rw [h5, if_neg (by simp), if_neg hn] at e
    simp only at e
    split at e
    · have := congrArg (fun t => t.2.1) e; simp only at this; omega
    · split at e
      · have := congrArg (fun t => t.2.2.2) e; simp at this
      · have := congrArg (fun t => t.2.1) e; simp only at this; omega
  · rw [e] at hj
    have := congrArg (fun t => t.2.1) hj
    simp only at this
    omega
theorem viewsOf_mem {all : List VW} {i : Int} {x : VW} (h : x ∈ viewsOf all i) : x ∈ all ∧ x.k = i := by
  unfold viewsOf at h
  rw [List.mem_filter] at h
  exact ⟨h.1, of_decide_eq_true h.2⟩
/-- valid bytes of a message in a message at most d deep -/
def SubOk (s : List Mes) (d : Nat) (o : Int) (b : List UInt8) : Prop := ∃ d', d = d' + 1 ∧ (vmsg s d' o.toNat b).2 = 0
theorem field_recs {s : List Mes} (hs : sright s = true) {d m : Nat} {l : List UInt8} (hm : m < s.length) (h : (vmsg s d m l).2 = 0) {q : Nat} (hq : q < (s.getD m .zero).fields.length) :
    FieldRecs (SubOk s d) ((s.getD m .zero).fields.getD q .zero) l (viewsOf (vall (s.getD m .zero).fields l).1 q) := by
  have hv := (vall_ok h).2
  have hf := sright_field hs m hm _ (getD_mem (s.getD m .zero).fields .zero hq)
  have hx : ∀ x ∈ viewsOf (vall (s.getD m .zero).fields l).1 q, ViewOk s d m l x ∧ x.k = q := fun x hx => ⟨hv x (viewsOf_mem hx).1, (viewsOf_mem hx).2⟩
  refine ⟨hf.1, fun x h1 h2 => ?_, fun h15 x h1 => (hx x h1).1.text (hx x h1).2 h15, fun h17 => ⟨fun x h1 => (hx x h1).1.sub (hx x h1).2 h17, fun _ hne => ?_⟩⟩
  · obtain ⟨-, -, -, h3⟩ := (hx x h1).1.facts
    rcases h3 with ⟨-, h3⟩ | ⟨k, h3, -, h4, -⟩
    · rw [h3] at h2; cases h2
    · have : k = q := by have := (hx x h1).2; omega
      subst this
      exact h4 h2
  · obtain ⟨x0, hx0⟩ := List.exists_mem_of_ne_nil _ hne
    obtain ⟨d', rfl, -⟩ := (hx x0 hx0).1.sub (hx x0 hx0).2 h17
    refine ⟨d', rfl, ?_⟩
    rw [List.flatMap_def]
    refine vmsg_flat fun b hb => ?_
    obtain ⟨x, hx1, rfl⟩ := List.mem_map.1 hb
    obtain ⟨d2, e2, h2⟩ := (hx x hx1).1.sub (hx x hx1).2 h17
    obtain rfl : d2 = d' := by omega
    exact h2
theorem of_range {s : List Mes} (hs : sright s = true) {m : Nat} (hm : m < s.length) {q : Nat} (hq : q < (s.getD m .zero).fields.length) :
    0 ≤ ((s.getD m .zero).fields.getD q .zero).of ∧ ((s.getD m .zero).fields.getD q .zero).of < s.length := by
  obtain ⟨-, h1, h2, -⟩ := sright_field hs m hm _ (getD_mem (s.getD m .zero).fields .zero hq)
  by_cases h17 : ((s.getD m .zero).fields.getD q .zero).kind = 17
  · exact h1 h17
  · have := h2 h17
    have := (sright_len hs).1
    omega
theorem tof_right_step {s : List Mes} (hs : sright s = true) (d : Nat) (hrec : ∀ d', d = d' + 1 → ∀ (m : Nat) (l : List UInt8), m < s.length → (vmsg s d' m l).2 = 0 → rightB s (d' + 1) (m : Int) (tof s d' m l) = true)
    (m : Nat) (l : List UInt8) (hm : m < s.length) (h : (vmsg s d m l).2 = 0) : rightB s (d + 1) (m : Int) (tof s d m l) = true := by
  rw [tof_msg]
  show (if (m : Int) < 0 ∨ (s.length : Int) ≤ (m : Int) then false else valsB (fitsB (rightB s d)) (s.getD (m : Int).toNat .zero).fields (msgOf (tsub s d) (s.getD m .zero).fields l).vals 0 && (msgOf (tsub s d) (s.getD m .zero).fields l).unk.all (strangeB (s.getD (m : Int).toNat .zero).fields)) = true
  rw [if_neg (by omega), Int.toNat_natCast, Bool.and_eq_true]
  refine ⟨valsB_ok (schema_Nums hs m hm) (FV := fun i => fieldV (tsub s d) ((s.getD m .zero).fields.getD i.toNat .zero) l (viewsOf (vall (s.getD m .zero).fields l).1 i)) (fun i => rfl) (sortedF (s.getD m .zero).fields) 0 (fun i hi => ?_) (sortF_ok _ _).2, ?_⟩
  · have hb := sortedF_mem hi
    obtain ⟨q, rfl⟩ : ∃ q : Nat, i = q := ⟨i.toNat, by omega⟩
    have hq : q < (s.getD m .zero).fields.length := by omega
    refine ⟨hb, ?_, fun hmn => ?_⟩
    · have := (schema_Nums hs m hm).pos q hq
      unfold numAt
      rw [Int.toNat_natCast]; omega
    · simp only [Int.toNat_natCast] at hmn ⊢
      refine fieldV_fits (field_recs hs hm h hq) (fun b hb => ?_) hmn
      obtain ⟨d', rfl, hv⟩ := hb
      have hr := of_range hs hm hq
      refine ⟨_, rfl, ?_⟩
      have := hrec d' rfl ((s.getD m .zero).fields.getD q .zero).of.toNat b (by omega) hv
      rwa [Int.toNat_of_nonneg hr.1] at this
  · rw [List.all_eq_true]
    intro t ht
    obtain ⟨x, hx, rfl⟩ := List.mem_map.1 (show t ∈ ((vall (s.getD m .zero).fields l).1.filter fun x => decide (x.k < 0)).map fun x => part l x.r.start x.r.to from ht)
    rw [List.mem_filter] at hx
    obtain ⟨h1, h2⟩ := ((vall_ok h).2 x hx.1).unknown (of_decide_eq_true hx.2)
    obtain ⟨r', h3, h4, h5⟩ := rnext_part h1
    unfold strangeB
    rw [h3]
    simp only [true_and, Bool.and_eq_true, decide_eq_true_eq]
    exact ⟨h5, by rw [h4]; exact h2⟩
/-- the meaning of valid bytes is right -/
theorem tof_right {s : List Mes} (hs : sright s = true) : ∀ (d m : Nat) (l : List UInt8), m < s.length → (vmsg s d m l).2 = 0 → rightB s (d + 1) (m : Int) (tof s d m l) = true
  | 0 => tof_right_step hs 0 (fun _ h => by cases h)
  | d + 1 => tof_right_step hs (d + 1) (fun d' h => by
    obtain rfl : d = d' := by omega
    exact tof_right hs d)
end Go.Proofs.YtfimpmennkfjcaaGreatDoor
namespace Go.Proofs.YtfimpmennkfjcaaGreatDoor
open Go.RowKit
theorem part_all (l : List UInt8) : part l 0 l.length = l := by unfold part; simp
end Go.Proofs.YtfimpmennkfjcaaGreatDoor
namespace Go.Proofs.YtfimpmennkfjcaaGreatDoor
open Go.RowKit
end Go.Proofs.YtfimpmennkfjcaaGreatDoor
namespace Go.Proofs.YtfimpmennkfjcaaGreatDoor
open Go.RowKit
end Go.Proofs.YtfimpmennkfjcaaGreatDoor
namespace Go.Proofs.YtfimpmennkfjcaaGreatDoor
open Go.RowKit
end Go.Proofs.YtfimpmennkfjcaaGreatDoor
namespace Go.Proofs.YtfimpmennkfjcaaGreatDoor
open Go.RowKit
set_option maxRecDepth 100000 in
set_option maxHeartbeats 4000000 in
theorem ref14_Many (num : Int) (a1 a2 a3 : Option Addr) (n1 n2 n3 c1 c2 c3 : Nat) (h1 : n1 ≤ 140737488355328) (h2 : n2 ≤ 140737488355328) (h3 : n3 ≤ 140737488355328) (w : World) :
    Calls Tryz.prog 45 #[.agg #[.int .i64 num, .slice a1 n1 c1, .slice a2 n2 c2, .slice a3 n3 c3]] w fun e w' => e = .returned (.int .i64 ((n1 + n2 + n3 : Nat) : Int)) ∧ Below w.heap.size w w' := by
  go_enter Tryz.func45, Tryz.ntmps45
  go_wp2
  go_ret
  exact ⟨ret1 (int_eq (by omega)), by (repeat (first | with_reducible exact Below.refl _ _ | with_reducible refine Below.setCell ?_ (by first | omega | (simp; omega) | (simp; done)) _ | with_reducible refine Below.alloc ?_ (by first | omega | (simp; omega) | (simp; done)) _ | with_reducible refine below_drewN ?_ _ | with_reducible refine Below.drew ?_))⟩
end Go.Proofs.YtfimpmennkfjcaaGreatDoor
namespace Go.Proofs.YtfimpmennkfjcaaGreatDoor
open Go.RowKit
end Go.Proofs.YtfimpmennkfjcaaGreatDoor
namespace Go.Proofs.YtfimpmennkfjcaaGreatDoor
open Go.RowKit
end Go.Proofs.YtfimpmennkfjcaaGreatDoor
