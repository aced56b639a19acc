/- Plain laws: a right schema's numbers; the meaning of valid bytes is right (tof_right). No condition. Plain laws: a record that is put is read (rnext_rput, vlook_rput); its bytes told as records (arecs_rput). No condition. Plain laws: a number's bytes are read back (kread_kput), a run of them too (runWords_kpack). No condition. tree.Fits, tree.right, tree.Right: fitsB, rightB, for each depth. The meaning's weight is at most 2^40. -/
import Derived.Test.YtbhiddafbpingaaGreatZ21
import Derived.Test.YtbhiddafbpingaaGreatZ23
import Derived.Test.YtbhiddafbpingaaGreatZ25
import Derived.Test.YtbhiddafbpingaaGreatZ26
namespace Go.Proofs.YtbhiddafbpingaaGreat
open Go.RowKit
theorem fault_num {n : Nat} {nm nu : Bool} {f : Fld} (h : fieldFault n nm nu f = 0) : nu = false ∧ numOk f.number = true := by
  unfold fieldFault at h
  by_cases h1 : nameOk f.name = false
  · rw [if_pos h1] at h; cases h
  rw [if_neg h1] at h
  cases nm with
  | true => simp at h
  | false =>
    rw [if_neg (by decide)] at h
    cases h2 : numOk f.number with
    | false => rw [if_pos h2] at h; cases h
    | true =>
      rw [if_neg (by rw [h2]; decide)] at h
      cases nu with
      | true => simp at h
      | false => exact ⟨rfl, rfl⟩
theorem fault_at {n : Nat} {fs : List Fld} : ∀ (k j : Nat), j = fs.length - k → fieldsFault n (fs.take k) (fs.drop k) k = none → ∀ i, k ≤ i → i < fs.length → numMet (fs.take i) (fs.getD i .zero).number = false ∧ numOk (fs.getD i .zero).number = true
  | k, 0, hj, _, i, h1, h2 => by omega
  | k, j + 1, hj, h, i, h1, h2 => by
    rw [fieldsFault_at n fs k (by omega)] at h
    by_cases hc : fieldFault n (nameMet (fs.take k) (fs.getD k .zero).name) (numMet (fs.take k) (fs.getD k .zero).number) (fs.getD k .zero) = 0
    · rw [if_pos hc] at h
      by_cases hik : i = k
      · subst hik; exact fault_num hc
      · exact fault_at (k + 1) j (by omega) h i (by omega) h2
    · rw [if_neg hc] at h; cases h
theorem schema_nums {s : List Mes} (h : sright s = true) (m : Nat) (hm : m < s.length) (i : Nat) (hi : i < (s.getD m .zero).fields.length) :
    numMet ((s.getD m .zero).fields.take i) ((s.getD m .zero).fields.getD i .zero).number = false ∧ numOk ((s.getD m .zero).fields.getD i .zero).number = true := by
  have h0 : (scheck s).2.2 = 0 := of_decide_eq_true h
  unfold scheck at h0
  by_cases h1 : s.length = 0 ∨ 100 < s.length
  · rw [if_pos h1] at h0; simp at h0
  rw [if_neg h1] at h0
  have hmem : s.getD m .zero ∈ s := by
    have : s.getD m .zero = s[m] := by simp [List.getD, hm]
    rw [this]; exact List.getElem_mem hm
  obtain ⟨h2, -, -⟩ := scheckGo_ok s [] 0 h0 _ hmem
  exact fault_at 0 _ rfl (by simpa using h2) i (by omega) hi
theorem firstAt_first (p : Fld → Bool) (fs : List Fld) (q : Nat) (hq : q < fs.length) (hp : p (fs.getD q .zero) = true) (hb : ∀ j, j < q → p (fs.getD j .zero) = false) :
    ∀ (j k : Nat), k + j = q → firstAt p (fs.drop k) k = (q : Int)
  | 0, k, h => by
    obtain rfl : k = q := by omega
    rw [firstAt_at p fs k hq, hp, if_pos rfl]
  | j + 1, k, h => by
    rw [firstAt_at p fs k (by omega), hb k (by omega), if_neg (by decide)]
    exact firstAt_first p fs q hq hp hb j (k + 1) (by omega)
/-- numbers of a message of a right schema -/
structure Nums (fs : List Fld) : Prop where
  met : ∀ i, i < fs.length → numMet (fs.take i) (fs.getD i .zero).number = false
  pos : ∀ i, i < fs.length → 1 ≤ (fs.getD i .zero).number
theorem schema_Nums {s : List Mes} (h : sright s = true) (m : Nat) (hm : m < s.length) : Nums (s.getD m .zero).fields :=
  ⟨fun i hi => (schema_nums h m hm i hi).1, fun i hi => (of_decide_eq_true (schema_nums h m hm i hi).2).1⟩
theorem Nums.ne {fs : List Fld} (h : Nums fs) {i j : Nat} (hij : i < j) (hj : j < fs.length) : (fs.getD i .zero).number ≠ (fs.getD j .zero).number := by
  intro e
  have h1 := h.met j hj
  unfold numMet at h1
  rw [List.any_eq_false] at h1
  have hi : i < fs.length := by omega
  have h2 := h1 (fs.getD i .zero) (by
    have e2 : fs.getD i .zero = fs[i] := by simp [List.getD, hi]
    rw [e2]
    exact List.mem_take_iff_getElem.2 ⟨i, by omega, rfl⟩)
  exact h2 (decide_eq_true e)
theorem Nums.at {fs : List Fld} (h : Nums fs) {q : Nat} (hq : q < fs.length) : fieldAt fs (fs.getD q .zero).number = q := by
  have := firstAt_first (fun f => decide (f.number = (fs.getD q .zero).number)) fs q hq (decide_eq_true rfl) (fun j hj => decide_eq_false (h.ne hj hq)) q 0 (by omega)
  rw [List.drop_zero] at this
  exact this
theorem Nums.lt {fs : List Fld} (h : Nums fs) {i j : Int} (hi : 0 ≤ i ∧ i < fs.length) (hj : 0 ≤ j ∧ j < fs.length) (ha : Ahead fs i j) : numAt fs i < numAt fs j := by
  rcases ha with ha | ⟨h1, h2⟩
  · exact ha
  · exact absurd h1 (h.ne (i := i.toNat) (j := j.toNat) (by omega) (by omega))
theorem valsB_ok {α : Type} {F : Fld → Val α → Bool} {fs : List Fld} (h : Nums fs) {FV : Int → Val α} (hn : ∀ i, (FV i).num = numAt fs i) :
    ∀ (ords : List Int) (last : Int), (∀ i ∈ ords, (0 ≤ i ∧ i < fs.length) ∧ last < numAt fs i ∧ (0 < many (FV i) → F (fs.getD i.toNat .zero) (FV i) = true)) → ords.Pairwise (Ahead fs) →
      valsB F fs ((ords.map FV).filter fun v => decide (0 < many v)) last = true
  | [], _, _, _ => rfl
  | i :: r, last, h1, h2 => by
    obtain ⟨g1, g2, g3⟩ := h1 i (by simp)
    rw [List.pairwise_cons] at h2
    rw [List.map_cons, List.filter_cons]
    have ih : ∀ last', last' ≤ numAt fs i → valsB F fs ((r.map FV).filter fun v => decide (0 < many v)) last' = true := fun last' hl => by
      refine valsB_ok h hn r last' (fun j hj => ?_) h2.2
      obtain ⟨k1, k2, k3⟩ := h1 j (by simp [hj])
      have := h.lt g1 k1 (h2.1 j hj)
      exact ⟨k1, by omega, k3⟩
    by_cases hm : 0 < many (FV i)
    · rw [if_pos (by simpa using hm), valsB, hn]
      have hat : fieldAt fs (numAt fs i) = i := by
        unfold numAt
        rw [h.at (by omega)]; omega
      rw [hat, if_neg]
      · exact ih _ (Int.le_refl _)
      · rintro (e | e | e)
        · omega
        · omega
        · rw [g3 hm] at e; cases e
    · rw [if_neg (by simpa using hm)]
      exact ih _ (by omega)
theorem ViewOk.unknown {s : List Mes} {d m : Nat} {l : List UInt8} {x : VW} (h : ViewOk s d m l x) (hk : x.k < 0) : rnext l x.r.start = (x.r, 0) ∧ fieldAt (s.getD m .zero).fields x.r.number < 0 := by
  obtain ⟨j, hj⟩ := h.look
  rcases vlook_cases (s.getD m .zero).fields l j with ⟨c, hc, e, -⟩ | ⟨r, h1, h2, h3, h4, h5, e | ⟨k, run, hk', e, -, h6, h7⟩⟩
  · rw [e] at hj
    exact absurd (congrArg (fun t => t.2.2.2) hj) (by simpa using hc)
  · have e1 : r = x.r := by rw [e] at hj; exact congrArg Prod.fst hj
    subst e1
    rw [h1]
    refine ⟨h5, ?_⟩
    refine Decidable.byContradiction fun hn => ?_
    unfold vlook at e
    rw [h5, if_neg (by simp), if_neg hn] at e
    simp only at e
    split at e
    · have := congrArg (fun t => t.2.1) e; simp only at this; omega
    · split at e
      · have := congrArg (fun t => t.2.2.2) e; simp at this
      · have := congrArg (fun t => t.2.1) e; simp only at this; omega
  · rw [e] at hj
    have := congrArg (fun t => t.2.1) hj
    simp only at this
    omega
theorem viewsOf_mem {all : List VW} {i : Int} {x : VW} (h : x ∈ viewsOf all i) : x ∈ all ∧ x.k = i := by
  unfold viewsOf at h
  rw [List.mem_filter] at h
  exact ⟨h.1, of_decide_eq_true h.2⟩
/-- valid bytes of a message in a message at most d deep -/
def SubOk (s : List Mes) (d : Nat) (o : Int) (b : List UInt8) : Prop := ∃ d', d = d' + 1 ∧ (vmsg s d' o.toNat b).2 = 0
theorem field_recs {s : List Mes} (hs : sright s = true) {d m : Nat} {l : List UInt8} (hm : m < s.length) (h : (vmsg s d m l).2 = 0) {q : Nat} (hq : q < (s.getD m .zero).fields.length) :
    FieldRecs (SubOk s d) ((s.getD m .zero).fields.getD q .zero) l (viewsOf (vall (s.getD m .zero).fields l).1 q) := by
  have hv := (vall_ok h).2
  have hf := sright_field hs m hm _ (getD_mem (s.getD m .zero).fields .zero hq)
  have hx : ∀ x ∈ viewsOf (vall (s.getD m .zero).fields l).1 q, ViewOk s d m l x ∧ x.k = q := fun x hx => ⟨hv x (viewsOf_mem hx).1, (viewsOf_mem hx).2⟩
  refine ⟨hf.1, fun x h1 h2 => ?_, fun h15 x h1 => (hx x h1).1.text (hx x h1).2 h15, fun h17 => ⟨fun x h1 => (hx x h1).1.sub (hx x h1).2 h17, fun _ hne => ?_⟩⟩
  · obtain ⟨-, -, -, h3⟩ := (hx x h1).1.facts
    rcases h3 with ⟨-, h3⟩ | ⟨k, h3, -, h4, -⟩
    · rw [h3] at h2; cases h2
    · have : k = q := by have := (hx x h1).2; omega
      subst this
      exact h4 h2
  · obtain ⟨x0, hx0⟩ := List.exists_mem_of_ne_nil _ hne
    obtain ⟨d', rfl, -⟩ := (hx x0 hx0).1.sub (hx x0 hx0).2 h17
    refine ⟨d', rfl, ?_⟩
    rw [List.flatMap_def]
    refine vmsg_flat fun b hb => ?_
    obtain ⟨x, hx1, rfl⟩ := List.mem_map.1 hb
    obtain ⟨d2, e2, h2⟩ := (hx x hx1).1.sub (hx x hx1).2 h17
    obtain rfl : d2 = d' := by omega
    exact h2
theorem of_range {s : List Mes} (hs : sright s = true) {m : Nat} (hm : m < s.length) {q : Nat} (hq : q < (s.getD m .zero).fields.length) :
    0 ≤ ((s.getD m .zero).fields.getD q .zero).of ∧ ((s.getD m .zero).fields.getD q .zero).of < s.length := by
  obtain ⟨-, h1, h2, -⟩ := sright_field hs m hm _ (getD_mem (s.getD m .zero).fields .zero hq)
  by_cases h17 : ((s.getD m .zero).fields.getD q .zero).kind = 17
  · exact h1 h17
  · have := h2 h17
    have := (sright_len hs).1
    omega
theorem tof_right_step {s : List Mes} (hs : sright s = true) (d : Nat) (hrec : ∀ d', d = d' + 1 → ∀ (m : Nat) (l : List UInt8), m < s.length → (vmsg s d' m l).2 = 0 → rightB s (d' + 1) (m : Int) (tof s d' m l) = true)
    (m : Nat) (l : List UInt8) (hm : m < s.length) (h : (vmsg s d m l).2 = 0) : rightB s (d + 1) (m : Int) (tof s d m l) = true := by
  rw [tof_msg]
  show (if (m : Int) < 0 ∨ (s.length : Int) ≤ (m : Int) then false else valsB (fitsB (rightB s d)) (s.getD (m : Int).toNat .zero).fields (msgOf (tsub s d) (s.getD m .zero).fields l).vals 0 && (msgOf (tsub s d) (s.getD m .zero).fields l).unk.all (strangeB (s.getD (m : Int).toNat .zero).fields)) = true
  rw [if_neg (by omega), Int.toNat_natCast, Bool.and_eq_true]
  refine ⟨valsB_ok (schema_Nums hs m hm) (FV := fun i => fieldV (tsub s d) ((s.getD m .zero).fields.getD i.toNat .zero) l (viewsOf (vall (s.getD m .zero).fields l).1 i)) (fun i => rfl) (sortedF (s.getD m .zero).fields) 0 (fun i hi => ?_) (sortF_ok _ _).2, ?_⟩
  · have hb := sortedF_mem hi
    obtain ⟨q, rfl⟩ : ∃ q : Nat, i = q := ⟨i.toNat, by omega⟩
    have hq : q < (s.getD m .zero).fields.length := by omega
    refine ⟨hb, ?_, fun hmn => ?_⟩
    · have := (schema_Nums hs m hm).pos q hq
      unfold numAt
      rw [Int.toNat_natCast]; omega
    · simp only [Int.toNat_natCast] at hmn ⊢
      refine fieldV_fits (field_recs hs hm h hq) (fun b hb => ?_) hmn
      obtain ⟨d', rfl, hv⟩ := hb
      have hr := of_range hs hm hq
      refine ⟨_, rfl, ?_⟩
      have := hrec d' rfl ((s.getD m .zero).fields.getD q .zero).of.toNat b (by omega) hv
      rwa [Int.toNat_of_nonneg hr.1] at this
  · rw [List.all_eq_true]
    intro t ht
    obtain ⟨x, hx, rfl⟩ := List.mem_map.1 (show t ∈ ((vall (s.getD m .zero).fields l).1.filter fun x => decide (x.k < 0)).map fun x => part l x.r.start x.r.to from ht)
    rw [List.mem_filter] at hx
    obtain ⟨h1, h2⟩ := ((vall_ok h).2 x hx.1).unknown (of_decide_eq_true hx.2)
    obtain ⟨r', h3, h4, h5⟩ := rnext_part h1
    unfold strangeB
    rw [h3]
    simp only [true_and, Bool.and_eq_true, decide_eq_true_eq]
    exact ⟨h5, by rw [h4]; exact h2⟩
/-- the meaning of valid bytes is right -/
theorem tof_right {s : List Mes} (hs : sright s = true) : ∀ (d m : Nat) (l : List UInt8), m < s.length → (vmsg s d m l).2 = 0 → rightB s (d + 1) (m : Int) (tof s d m l) = true
  | 0 => tof_right_step hs 0 (fun _ h => by cases h)
  | d + 1 => tof_right_step hs (d + 1) (fun d' h => by
    obtain rfl : d = d' := by omega
    exact tof_right hs d)
end Go.Proofs.YtbhiddafbpingaaGreat
namespace Go.Proofs.YtbhiddafbpingaaGreat
open Go.RowKit
theorem rnext_rput {n x : Nat} (ht : tagOk n x = true) {t : List UInt8} (hf : rfits (x : Int) t = true) (hl : t.length < 2 ^ 64) :
    ∃ h, rnext (rput n x t) 0 = (⟨n, x, 0, h, h + t.length⟩, 0) ∧ (rput n x t).length = h + t.length ∧ part (rput n x t) h (h + t.length) = t ∧ 0 < h := by
  have ht' : (1 : Int) ≤ n ∧ (n : Int) ≤ 536870911 ∧ ((x : Int) = 0 ∨ (x : Int) = 1 ∨ (x : Int) = 2 ∨ (x : Int) = 5) := of_decide_eq_true ht
  have hx : x = 0 ∨ x = 1 ∨ x = 2 ∨ x = 5 := by omega
  have ha : 8 * n + x < 2 ^ 64 := by omega
  have hpos := vput_pos (8 * n + x)
  rw [rput_nat]
  obtain ⟨L, hL⟩ : ∃ L, L = (if x = 2 then vput t.length else []) := ⟨_, rfl⟩
  rw [← hL]
  have hv : vread (vput (8 * n + x) ++ (L ++ t)) = (8 * n + x, (vput (8 * n + x)).length, 0) := by
    rw [vread_app _ (by rw [vread_vput ha]), vread_vput ha]
  have htr : tread (vput (8 * n + x) ++ (L ++ t)) = (n, x, (vput (8 * n + x)).length, 0) := by
    unfold tread
    rw [hv]
    have h8 : (8 * n + x) / 8 = n := by omega
    have h9 : (8 * n + x) % 8 = x := by omega
    simp only [h8, h9]
    rw [if_neg (by simp), if_neg (by rw [ht]; simp; omega)]
  have hd : (vput (8 * n + x) ++ (L ++ t)).drop (vput (8 * n + x)).length = L ++ t := List.drop_left
  have hsz : rsize x (L ++ t) = (L.length, t.length, 0) := by
    unfold rsize
    rcases hx with rfl | rfl | rfl | rfl
    · rw [if_neg (by decide)] at hL
      subst hL
      unfold rfits at hf
      simp at hf
      simp [hf.1, hf.2]
    · rw [if_neg (by decide)] at hL
      subst hL
      unfold rfits at hf
      simp at hf
      simp [hf]
    · rw [if_pos rfl] at hL
      subst hL
      rw [if_neg (by decide), if_neg (by decide), if_neg (by decide), vread_app _ (by rw [vread_vput hl]), vread_vput hl]
    · rw [if_neg (by decide)] at hL
      subst hL
      unfold rfits at hf
      simp at hf
      simp [hf]
  refine ⟨(vput (8 * n + x)).length + L.length, ?_, by simp; omega, ?_, by omega⟩
  · unfold rnext
    rw [if_neg (by rw [List.length_append]; omega), List.drop_zero, htr]
    simp only [Nat.zero_add]
    rw [if_neg (by simp), hd, hsz]
    simp only
    rw [if_neg (by simp), if_neg (by simp; omega)]
  · unfold part
    rw [← List.append_assoc, Nat.add_sub_cancel_left]
    rw [show (vput (8 * n + x)).length + L.length = (vput (8 * n + x) ++ L).length by simp, List.drop_left, List.take_length]
theorem part_all (l : List UInt8) : part l 0 l.length = l := by unfold part; simp
/-- one record of a field -/
theorem arecs_rput {fs : List Fld} {q n x : Nat} (_hq : q < fs.length) (hn : fieldAt fs (n : Int) = q) (ht : tagOk n x = true) {t : List UInt8} (hf : rfits (x : Int) t = true) (hl : t.length < 2 ^ 64) {run : Bool}
    (hrun : run = ((fs.getD q .zero).rep && knumber (fs.getD q .zero).kind && decide (x = 2))) (hk : run = true ∨ kright (fs.getD q .zero).kind = true ∧ kwire (fs.getD q .zero).kind = x) :
    (vall fs (rput n x t)).2.2 = 0 ∧ arecs fs (rput n x t) = [(⟨(q : Int), run, t, rput n x t⟩ : AR)] := by
  obtain ⟨h, h1, h2, h3, h4⟩ := rnext_rput ht hf hl
  have hlook : vlook fs (rput n x t) 0 = ((⟨n, x, 0, h, h + t.length⟩ : Rec), (q : Int), run, 0) := by
    unfold vlook
    rw [h1]
    simp only
    rw [if_neg (by simp), hn, if_neg (by omega), Int.toNat_natCast]
    have e : ((fs.getD q Fld.zero).rep && knumber (fs.getD q Fld.zero).kind && decide (x = 2)) = run := hrun.symm
    rw [e]
    cases run with
    | true => rfl
    | false =>
      rcases hk with hk | ⟨hk1, hk2⟩
      · cases hk
      · rw [if_neg (by simp), if_neg (by rw [hk1, hk2]; simp)]
  obtain ⟨N, hN⟩ : ∃ N, (rput n x t).length = N + 1 := ⟨(rput n x t).length - 1, by omega⟩
  have hva : vall fs (rput n x t) = ([(⟨⟨n, x, 0, h, h + t.length⟩, (q : Int), run⟩ : VW)], 0, 0) := by
    unfold vall
    rw [hN, vallGo_next fs _ _ _ (by omega) (by rw [hlook]), hlook]
    simp only
    rw [vallGo_end fs _ N _ (by omega), if_neg (by simp)]
  refine ⟨by rw [hva], ?_⟩
  unfold arecs
  rw [hva]
  simp only [List.map_cons, List.map_nil]
  unfold arOf vbytes
  simp only
  rw [h3, ← h2, part_all]
end Go.Proofs.YtbhiddafbpingaaGreat
namespace Go.Proofs.YtbhiddafbpingaaGreat
open Go.RowKit
theorem b8_nat {n : Nat} (h : n < 256) : (b8 n).toNat = n := ((b8_eq n (b8 n) h).1 rfl).symm
theorem wordL_little : ∀ (n x : Nat), wordL (little n x) = x % 256 ^ n
  | 0, x => by simp [little, wordL, Nat.mod_one]
  | n + 1, x => by
    rw [little, wordL, wordL_little n, b8_nat (Nat.mod_lt _ (by decide)), Nat.pow_succ, Nat.mul_comm (256 ^ n) 256, Nat.mod_mul]
theorem kcanon_small {k : Int} (h1 : 9 ≤ k) (h2 : k < 12) (x : Nat) : kcanon k x < 256 ^ 4 := by
  unfold kcanon
  rw [if_neg (by omega), if_neg (by omega), if_pos (by omega)]
  exact Nat.mod_lt _ (by decide)
theorem kforms {k : Int} (hk : knumber k = true) (x : Nat) : (kwire k = 1 ∧ kput k x = little 8 (kcanon k x)) ∨ (kwire k = 5 ∧ kput k x = little 4 (kcanon k x) ∧ 9 ≤ k ∧ k < 12) ∨ (kwire k = 0 ∧ kput k x = vput (kcanon k x)) := by
  have hk' : 1 ≤ k ∧ k ≤ 14 := of_decide_eq_true hk
  unfold kwire kput
  rw [if_neg (show ¬ (k < 1 ∨ 17 < k) by omega), if_neg (show ¬ (15 ≤ k) by omega)]
  by_cases h1 : 12 ≤ k
  · rw [if_pos h1, if_pos h1]; exact .inl ⟨rfl, rfl⟩
  · rw [if_neg h1, if_neg h1]
    by_cases h2 : 9 ≤ k
    · rw [if_pos h2, if_pos h2]; exact .inr (.inl ⟨rfl, rfl, h2, by omega⟩)
    · rw [if_neg h2, if_neg h2]; exact .inr (.inr ⟨rfl, rfl⟩)
theorem kput_pos {k : Int} {x : Nat} : 0 < (kput k x).length := by
  unfold kput
  split
  · rw [little_len]; omega
  · split
    · rw [little_len]; omega
    · exact vput_pos _
theorem kread_kput {k : Int} {x : Nat} (hk : knumber k = true) (h : x < 2 ^ 64) : kread k (kput k x) = (kcanon k x, 0) := by
  have hc := kcanon_lt k h
  unfold kread
  rw [if_pos (kput_fits hk h)]
  congr 1
  have e : (if kwire k = 0 then (vread (kput k x)).1 else wordOf (kput k x)) = kcanon k x := by
    rcases kforms hk x with ⟨e1, e2⟩ | ⟨e1, e2, h1, h2⟩ | ⟨e1, e2⟩
    · rw [e1, e2, if_neg (by decide)]
      unfold wordOf
      rw [List.take_of_length_le (by rw [little_len]; omega), wordL_little]
      exact Nat.mod_eq_of_lt hc
    · rw [e1, e2, if_neg (by decide)]
      unfold wordOf
      rw [List.take_of_length_le (by rw [little_len]; omega), wordL_little]
      exact Nat.mod_eq_of_lt (kcanon_small h1 h2 x)
    · rw [e1, e2, if_pos rfl, vread_vput hc]
  rw [e]
  exact kcanon_idem k x
theorem runSize_kput {k : Int} {x : Nat} (hk : knumber k = true) (h : x < 2 ^ 64) (r : List UInt8) : runSize (kwire k) (kput k x ++ r) = ((kput k x).length, 0) := by
  have hc := kcanon_lt k h
  unfold runSize
  rcases kforms hk x with ⟨e1, e2⟩ | ⟨e1, e2, h1, h2⟩ | ⟨e1, e2⟩
  · rw [e1, e2, if_neg (by decide), if_pos rfl, if_neg (by rw [List.length_append, little_len]; omega), little_len]
  · rw [e1, e2, if_neg (by decide), if_neg (show ¬ (5 = 1) by decide), if_neg (by rw [List.length_append, little_len]; omega), little_len]
  · rw [e1, e2, if_pos rfl, vread_app _ (by rw [vread_vput hc]), vread_vput hc]
theorem runCount_kpack {k : Int} (hk : knumber k = true) : ∀ (ws : List Nat), (∀ x ∈ ws, x < 2 ^ 64) → (runCount (kwire k) (kpack k ws)).2 = 0 ∧ rpieces (kwire k) (kpack k ws) = ws.map (kput k)
  | [], _ => ⟨rfl, rfl⟩
  | x :: r, h => by
    obtain ⟨g1, g2⟩ := runCount_kpack hk r fun y hy => h y (by simp [hy])
    have hx := h x (by simp)
    have e : kpack k (x :: r) = kput k x ++ kpack k r := by unfold kpack; rw [List.flatMap_cons]
    have hp := kput_pos (k := k) (x := x)
    have hne : kput k x ++ kpack k r ≠ [] := by intro e; rw [List.append_eq_nil_iff] at e; rw [e.1] at hp; simp at hp
    have hs := runSize_kput hk hx (kpack k r)
    rw [e]
    refine ⟨?_, ?_⟩
    · rw [runCount_step _ _ hne _ hs, List.drop_left, if_neg (by omega)]
    · rw [rpieces_step _ _ hne _ hs, List.drop_left, List.take_left, g2, List.map_cons]
theorem runWords_kpack {k : Int} (hk : knumber k = true) (ws : List Nat) (h : ∀ x ∈ ws, x < 2 ^ 64) : runWords k (kpack k ws) = (ws.map (kcanon k), 0) := by
  obtain ⟨g1, g2⟩ := runCount_kpack hk ws h
  unfold runWords
  rw [if_pos g1]
  unfold kwords
  rw [g2, List.map_map]
  congr 1
  refine List.map_congr_left fun x hx => ?_
  show (kread k (kput k x)).1 = _
  rw [kread_kput hk (h x hx)]
end Go.Proofs.YtbhiddafbpingaaGreat
namespace Go.Proofs.YtbhiddafbpingaaGreat
open Go.RowKit
def RightOk (s : List Mes) (d : Nat) : Prop := ∀ (w : World) (root : Int) (v sv : Value) (x : M d), SchemaAt w sv s → MsgAt d w v x → mwt d x ≤ 1099511627776 →
  Calls Tryz.prog 78 #[sv, .int .i64 root, v] w fun e w' => e = .returned (.bool (rightB s d root x)) ∧ Below w.heap.size w w'
def FitsOk (s : List Mes) (d : Nat) : Prop := ∀ (w : World) (f : Fld) (v sv : Value) (x : Val (M d)), SchemaAt w sv s → ValAt (MsgAt d) w v x → vwt (mwt d) x ≤ 1099511627776 →
  Calls Tryz.prog 101 #[f.val, sv, v] w fun e w' => e = .returned (.bool (fitsB (rightB s d) f x)) ∧ Below w.heap.size w w'
set_option maxRecDepth 100000 in
set_option maxHeartbeats 4000000 in
theorem tree_Fits_1 {w : World} {q : Nat} {k : Int} (hq : w.cell? ⟨q, 2, none⟩ = some (.int .i64 k)) (hk : knumber k = true) (x : Nat) (hx : x < 2 ^ 64) :
    Calls Tryz.prog 129 #[.int .u64 x, .pointer (some ⟨q, 0, none⟩)] w fun e w' => e = .returned (.bool (!decide (kcanon k x = x))) ∧ Below w.heap.size w w' := by
  have HK := hid hk
  obtain ⟨y, HY⟩ : ∃ y, Hid (y = kcanon k x) := ⟨_, rfl⟩
  have hy64 := kcanon_lt k hx
  rw [← HY.out] at hy64 ⊢
  have hql : q < w.heap.size := World.block_lt_of_cell? w _ hq
  have HX := hid hx
  have HY64 := hid hy64
  clear hk hx hy64
  go_enter Tryz.func129, Tryz.ntmps129
  go_wp2_with (go_at_call 130; refine (kind_Canon HK.out _ _).mono ?_; rintro e w1 ⟨rfl, hb1⟩; rw [← HY.out])
  go_ret
  refine ⟨ret1 ?_, hb1⟩
  show Value.bool ((y : Int) != x) = Value.bool (!decide (y = x))
  congr 1
  rw [Bool.eq_iff_iff]
  simp
  omega
set_option maxRecDepth 100000 in
set_option maxHeartbeats 4000000 in
theorem tree_Fits_3 (t : List UInt8) (ht : t.length ≤ 140737488355328) (w : World) :
    Calls Tryz.prog 133 #[strV t] w fun e w' => e = .returned (.bool (!decide (ufirst t = t.length))) ∧ Below w.heap.size w w' := by
  obtain ⟨g, c, w2, hcv, hb2, hby⟩ := str_bytes w t ht
  have hST : strV t = .string ⟨t.toArray⟩ := rfl
  rw [hST]
  have HBY := hid hby
  have HB2 := hid hb2
  clear hST hby hb2 ht
  go_enter Tryz.func133, Tryz.ntmps133
  go_wp2_with (go_at_call 134; refine (utf_Right HBY.out).mono ?_; rintro e w3 ⟨rfl, hb3⟩)
  go_ret
  exact ⟨rfl, by rw [← hb3]; exact HB2.out⟩
set_option maxRecDepth 100000 in
set_option maxHeartbeats 4000000 in
theorem tree_Fits_2 {s : List Mes} {d : Nat} (ih : RightOk s d) {w : World} {p q : Nat} {sv : Value} {of : Int} (hp : w.cell? ⟨p, 0, none⟩ = some sv) (hq : w.cell? ⟨q, 5, none⟩ = some (.int .i64 of)) (hS : SchemaAt w sv s)
    {v : Value} {x : M d} (hx : MsgAt d w v x) (hw : mwt d x ≤ 1099511627776) :
    Calls Tryz.prog 132 #[v, .pointer (some ⟨p, 0, none⟩), .pointer (some ⟨q, 0, none⟩)] w fun e w' => e = .returned (.bool (!rightB s d of x)) ∧ Below w.heap.size w w' := by
  obtain ⟨y, HY⟩ : ∃ y, Hid (rightB s d of x = y) := ⟨_, rfl⟩
  rw [HY.out]
  have HX := hid hx
  have HS := hid hS
  have HW := hid hw
  unfold RightOk at ih
  have HIH := hid ih
  obtain ⟨-, sa, sc, rfl, -⟩ := hS.open
  obtain ⟨a1, n1, c1, a2, n2, c2, rfl⟩ := hx.form
  have hpl : p < w.heap.size := World.block_lt_of_cell? w _ hp
  have hql : q < w.heap.size := World.block_lt_of_cell? w _ hq
  clear ih hx hS hw
  go_enter Tryz.func132, Tryz.ntmps132
  go_wp2_with fail
  have hB1 : Below w.heap.size w (w.alloc (.cells #[.slice a1 n1 c1, .slice a2 n2 c2] 58)) := (Below.refl _ _).alloc (Nat.le_refl _) _
  refine (HIH.out _ _ _ _ x (HS.out.below hB1) (HX.out.below hB1) HW.out).mono ?_
  rintro e w2 ⟨rfl, hb2⟩
  rw [HY.out]
  go_wp2_with fail
  go_ret
  exact ⟨rfl, hB1.trans (hb2.mono hB1.size)⟩
theorem news3' (w : World) (c1 c2 c3 : List Value) (T1 T2 T3 : TypeId) : ∀ W, W = ((w.alloc (.cells c1.toArray T1)).alloc (.cells c2.toArray T2)).alloc (.cells c3.toArray T3) →
    Blk W w.heap.size c1 T1 ∧ Blk W (w.heap.size + 1) c2 T2 ∧ Blk W (w.heap.size + 1 + 1) c3 T3 ∧ W.heap.size = w.heap.size + 1 + 1 + 1 ∧ Below w.heap.size w W := by
  rintro W rfl
  exact news3 w c1 c2 c3 T1 T2 T3
set_option maxRecDepth 100000 in
set_option maxHeartbeats 4000000 in
theorem tree_Fits {s : List Mes} {d : Nat} (ih : RightOk s d) : FitsOk s d := by
  intro w f v sv x hS h hw
  obtain ⟨name, number, kind, rep, packed, of⟩ := f
  obtain ⟨wv, tv, sv', rfl, hnum, hW, hT, hSu⟩ := h
  obtain ⟨y, HY⟩ : ∃ y, Hid (y = fitsB (rightB s d) ⟨name, number, kind, rep, packed, of⟩ x) := ⟨_, rfl⟩
  rw [← HY.out]
  have H3 := hid (news3' w [.string name, .int .i64 number, .int .i64 kind, .bool rep, .bool packed, .int .i64 of] [sv] [.int .i64 x.num, wv, tv, sv'] 74 23 109)
  have HS := hid hS
  have HWD := hid hW
  have HTX := hid hT
  have HSU := hid hSu
  have HWT : Hid (∀ z ∈ x.subs, mwt d z ≤ 1099511627776) := fun z hz => by
    have h1 := mem_sum_le (mwt d) x.subs z hz
    unfold vwt at hw
    omega
  have HIH := hid ih
  obtain ⟨hwl, wa, wc, rfl, -, -⟩ := hW.open
  obtain ⟨htl, ta, tc, rfl, -, -⟩ := hT.open
  obtain ⟨hsl, sa, sc, rfl, -, -⟩ := hSu.open
  obtain ⟨hscl, ssa, ssc, rfl, -⟩ := hS.open
  obtain ⟨wn, HWN⟩ : ∃ n, Hid (n = x.words.length) := ⟨_, rfl⟩
  obtain ⟨tn, HTN⟩ : ∃ n, Hid (n = x.texts.length) := ⟨_, rfl⟩
  obtain ⟨sn, HSN⟩ : ∃ n, Hid (n = x.subs.length) := ⟨_, rfl⟩
  rw [← HWN.out] at H3 HWD hwl ⊢
  rw [← HTN.out] at H3 HTX htl ⊢
  rw [← HSN.out] at H3 HSU hsl ⊢
  have HYE : Hid (y = if wn + tn + sn = 0 ∨ 1 < wn + tn + sn ∧ rep = false then false
    else if knumber kind = true then decide (tn = 0 ∧ sn = 0) && x.words.all fun w => decide (kcanon kind w = w)
    else if kind = 17 then decide (wn = 0 ∧ tn = 0) && x.subs.all (rightB s d of)
    else if kind = 15 then decide (wn = 0 ∧ sn = 0) && x.texts.all fun t => decide (ufirst t = t.length)
    else decide (kind = 16) && decide (wn = 0 ∧ sn = 0)) := by
      rw [Hid, HY.out, HWN.out, HTN.out, HSN.out]; rfl
  generalize x.num = num at *
  simp only [Fld.val]
  clear ih hW hT hSu hS hw HY
  by_cases h0 : wn + tn + sn = 0
  · have HF : Hid (y = false) := by rw [Hid, HYE.out, if_pos (.inl h0)]
    have h3 := H3.out _ rfl
    clear HYE
    go_enter Tryz.func101, Tryz.ntmps101
    go_wp2_with fail
    go_ret
    exact ⟨by rw [HF.out]; rfl, h3.2.2.2.2⟩
  by_cases h1 : 1 < wn + tn + sn ∧ rep = false
  · have HF : Hid (y = false) := by rw [Hid, HYE.out, if_pos (.inr h1)]
    have h3 := H3.out _ rfl
    obtain ⟨h1, rfl⟩ := h1
    clear HYE
    go_enter Tryz.func101, Tryz.ntmps101
    go_wp2_with fail
    go_ret
    exact ⟨by rw [HF.out]; rfl, h3.2.2.2.2⟩
  have HYE2 : Hid (y = if knumber kind = true then decide (tn = 0 ∧ sn = 0) && x.words.all fun w => decide (kcanon kind w = w)
    else if kind = 17 then decide (wn = 0 ∧ tn = 0) && x.subs.all (rightB s d of)
    else if kind = 15 then decide (wn = 0 ∧ sn = 0) && x.texts.all fun t => decide (ufirst t = t.length)
    else decide (kind = 16) && decide (wn = 0 ∧ sn = 0)) := by
      rw [Hid, HYE.out, if_neg]
      rintro (h | h)
      · exact h0 h
      · exact h1 h
  have hr1 : wn + tn + sn = 1 ∨ (1 < wn + tn + sn ∧ rep = true) := by
    by_cases h : 1 < wn + tn + sn
    · refine .inr ⟨h, ?_⟩
      cases rep
      · exact absurd ⟨h, rfl⟩ h1
      · rfl
    · exact .inl (by omega)
  clear HYE h1
  have HALL : Hid (∀ {α : Type} (l : List α) (p : α → Bool), (!l.any fun a => !p a) = l.all p) := fun l p => by rw [List.all_eq_not_any_not]
  rcases hr1 with hr1 | ⟨hr1, rfl⟩
  all_goals
    go_enter Tryz.func101, Tryz.ntmps101
    go_wp2_with fail
    have h3 := H3.out _ rfl
    clear H3
    obtain ⟨hk1, hk2, hk3, -, hb1⟩ := h3
    refine (kind_Number kind _).mono ?_
    rintro e w2 ⟨rfl, hb2⟩
    have HK1 := hid (hk1.below hb2)
    have HK2 := hid (hk2.below hb2)
    have HK3 := hid (hk3.below hb2)
    have HB2 := hid (hb1.trans (hb2.mono hb1.size))
    clear hk1 hk2 hk3 hb1 hb2
    have l1 := HK1.out.lt
    have l2 := HK2.out.lt
    have l3 := HK3.out.lt
    have f2 := HK1.out.cell 2 _ rfl
    have f5 := HK1.out.cell 5 _ rfl
    have v1 := HK3.out.cell 1 _ rfl
    have v2 := HK3.out.cell 2 _ rfl
    have v3 := HK3.out.cell 3 _ rfl
    have g0 := HK2.out.cell 0 _ rfl
    by_cases hk : knumber kind = true
    · have HKN := hid hk
      rw [hk]
      by_cases hz : tn = 0 ∧ sn = 0
      · have HF : Hid (y = x.words.all fun w => decide (kcanon kind w = w)) := by rw [Hid, HYE2.out, if_pos hk, decide_eq_true hz]; rfl
        clear HYE2 hk
        go_wp2_with fail
        refine (containsFunc_u64 (HWD.out.keep (below_keeps HB2.out)) 129 _ (fun w => !decide (kcanon kind w = w)) (fun args w => by simp [go_sem]) ?_).mono ?_
        · exact fun z _ wr hz hb => tree_Fits_1 (below_keeps hb _ _ f2) HKN.out z hz
        · rintro e w3 ⟨rfl, hb3⟩
          go_wp2_with fail
          go_ret
          exact ⟨by rw [HF.out, ← HALL.out]; rfl, HB2.out.trans (hb3.mono HB2.out.size)⟩
      · have HF : Hid (y = false) := by rw [Hid, HYE2.out, if_pos hk, decide_eq_false hz]; rfl
        clear HYE2 hk
        go_wp2_with fail
        go_ret
        exact ⟨by rw [HF.out]; rfl, HB2.out⟩
    · have HYE3 : Hid (y = if kind = 17 then decide (wn = 0 ∧ tn = 0) && x.subs.all (rightB s d of)
          else if kind = 15 then decide (wn = 0 ∧ sn = 0) && x.texts.all fun t => decide (ufirst t = t.length)
          else decide (kind = 16) && decide (wn = 0 ∧ sn = 0)) := by rw [Hid, HYE2.out, if_neg hk]
      have hkf : knumber kind = false := by simpa using hk
      rw [hkf]
      clear HYE2 hk hkf
      by_cases h17 : kind = 17
      · subst h17
        by_cases hz : wn = 0 ∧ tn = 0
        · have HF : Hid (y = x.subs.all (rightB s d of)) := by rw [Hid, HYE3.out, if_pos rfl, decide_eq_true hz]; rfl
          clear HYE3
          go_wp2_with fail
          refine (containsFunc_msg (HSU.out.keep (below_keeps HB2.out) fun _ _ h => MsgAt.below h HB2.out) 132 _ (fun m => !rightB s d of m) (fun args w => by simp [go_sem]) ?_).mono ?_
          · exact fun z hz mv wr hm hb => tree_Fits_2 HIH.out (below_keeps hb _ _ g0) (below_keeps hb _ _ f5) (HS.out.below (HB2.out.trans (hb.mono HB2.out.size))) (hm.below hb) (HWT.out z hz)
          · rintro e w3 ⟨rfl, hb3⟩
            go_wp2_with fail
            go_ret
            exact ⟨by rw [HF.out, ← HALL.out]; rfl, HB2.out.trans (hb3.mono HB2.out.size)⟩
        · have HF : Hid (y = false) := by rw [Hid, HYE3.out, if_pos rfl, decide_eq_false hz]; rfl
          clear HYE3
          go_wp2_with fail
          go_ret
          exact ⟨by rw [HF.out]; rfl, HB2.out⟩
      by_cases h15 : kind = 15
      · subst h15
        by_cases hz : wn = 0 ∧ sn = 0
        · have HF : Hid (y = x.texts.all fun t => decide (ufirst t = t.length)) := by rw [Hid, HYE3.out, if_neg h17, if_pos rfl, decide_eq_true hz]; rfl
          clear HYE3
          go_wp2_with fail
          refine (containsFunc_str (HTX.out.keep (below_keeps HB2.out)) 133 _ (fun t => !decide (ufirst t = t.length)) (fun args w => by simp [go_sem]) ?_).mono ?_
          · exact fun z _ wr hz hb => tree_Fits_3 z hz wr
          · rintro e w3 ⟨rfl, hb3⟩
            go_wp2_with fail
            go_ret
            exact ⟨by rw [HF.out, ← HALL.out]; rfl, HB2.out.trans (hb3.mono HB2.out.size)⟩
        · have HF : Hid (y = false) := by rw [Hid, HYE3.out, if_neg h17, if_pos rfl, decide_eq_false hz]; rfl
          clear HYE3
          go_wp2_with fail
          go_ret
          exact ⟨by rw [HF.out]; rfl, HB2.out⟩
      by_cases h16 : kind = 16
      · subst h16
        by_cases hz : wn = 0 ∧ sn = 0
        · have HF : Hid (y = true) := by rw [Hid, HYE3.out, if_neg h17, if_neg h15, decide_eq_true hz]; rfl
          clear HYE3
          go_wp2_with fail
          go_ret
          exact ⟨by rw [HF.out]; first | rfl | (exact ret1 (congrArg Value.bool (by simp; omega))), HB2.out⟩
        · have HF : Hid (y = false) := by rw [Hid, HYE3.out, if_neg h17, if_neg h15, decide_eq_false hz]; rfl
          clear HYE3
          go_wp2_with fail
          go_ret
          exact ⟨by rw [HF.out]; first | rfl | (exact ret1 (congrArg Value.bool (by simp; omega))), HB2.out⟩
      · have HF : Hid (y = false) := by rw [Hid, HYE3.out, if_neg h17, if_neg h15, decide_eq_false h16]; rfl
        clear HYE3
        go_wp2_with fail
        go_ret
        exact ⟨by rw [HF.out]; first | rfl | (exact ret1 (congrArg Value.bool (by simp; omega))), HB2.out⟩
end Go.Proofs.YtbhiddafbpingaaGreat
