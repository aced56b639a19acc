/- Plain law: the first place where a schema is not right (scheck), and what the maps of names and of what was met hold on the way. No condition. What schema.Check and schema.Right return of any schema: scheck, sright. No condition beyond that the argument reads as a schema. What the document's Fault of a field returns, of any schema: fieldFault. The two places lie in the schema. What the document's Check, Right and Field of schemas return, of any schema: scheck, sright, fieldAt. No condition beyond that the argument reads as a schema. -/
import Derived.Test.YtphkmpnahnakaaaZ05
namespace Go.Proofs.Ytphkmpnahnakaaa
open Go.RowKit
def nameMet (bf : List Fld) (t : ByteArray) : Bool := bf.any fun g => decide (g.name = t)
def numMet (bf : List Fld) (x : Int) : Bool := bf.any fun g => decide (g.number = x)
def mesMet (bm : List Mes) (t : ByteArray) : Bool := bm.any fun g => decide (g.name = t)
def fieldsFault (n : Nat) (bf : List Fld) : List Fld → Nat → Option (Nat × Nat)
  | [], _ => none
  | f :: r, k => if fieldFault n (nameMet bf f.name) (numMet bf f.number) f = 0 then fieldsFault n (bf ++ [f]) r (k + 1) else some (k, fieldFault n (nameMet bf f.name) (numMet bf f.number) f)
/-- message, field, what -/
def scheckGo (n : Nat) (bm : List Mes) : List Mes → Nat → Int × Int × Nat
  | [], _ => (0, 0, 0)
  | m :: r, i =>
    if nameOk m.name = false then (i, -1, 2) else if mesMet bm m.name = true then (i, -1, 3) else if 200 < m.fields.length then (i, -1, 4) else
    match fieldsFault n [] m.fields 0 with
    | some (k, w) => (i, k, w)
    | none => scheckGo n (bm ++ [m]) r (i + 1)
def scheck (s : List Mes) : Int × Int × Nat := if s.length = 0 ∨ 100 < s.length then (-1, -1, 1) else scheckGo s.length [] s 0
def sright (s : List Mes) : Bool := decide ((scheck s).2.2 = 0)
theorem fieldsFault_at (n : Nat) (fs : List Fld) (k : Nat) (hk : k < fs.length) : fieldsFault n (fs.take k) (fs.drop k) k =
    if fieldFault n (nameMet (fs.take k) (fs.getD k .zero).name) (numMet (fs.take k) (fs.getD k .zero).number) (fs.getD k .zero) = 0 then fieldsFault n (fs.take (k + 1)) (fs.drop (k + 1)) (k + 1)
    else some (k, fieldFault n (nameMet (fs.take k) (fs.getD k .zero).name) (numMet (fs.take k) (fs.getD k .zero).number) (fs.getD k .zero)) := by
  have e : fs.getD k .zero = fs[k] := by simp [List.getD, hk]
  rw [e]
  conv => lhs; rw [List.drop_eq_getElem_cons hk]
  rw [fieldsFault, List.take_succ_eq_append_getElem hk]
theorem scheckGo_at (n : Nat) (s : List Mes) (k : Nat) (hk : k < s.length) : scheckGo n (s.take k) (s.drop k) k =
    if nameOk (s.getD k .zero).name = false then ((k : Int), -1, 2) else if mesMet (s.take k) (s.getD k .zero).name = true then ((k : Int), -1, 3) else if 200 < (s.getD k .zero).fields.length then ((k : Int), -1, 4) else
    match fieldsFault n [] (s.getD k .zero).fields 0 with
    | some (j, w) => ((k : Int), (j : Int), w)
    | none => scheckGo n (s.take (k + 1)) (s.drop (k + 1)) (k + 1) := by
  have e : s.getD k .zero = s[k] := by simp [List.getD, hk]
  rw [e]
  conv => lhs; rw [List.drop_eq_getElem_cons hk]
  rw [scheckGo, List.take_succ_eq_append_getElem hk]
theorem fieldFault_ok {n : Nat} {nm nu : Bool} {f : Fld} (h : fieldFault n nm nu f = 0) : nameOk f.name = true ∧ nm = false ∧ numOk f.number = true ∧ nu = false := by
  unfold fieldFault at h
  by_cases h1 : nameOk f.name = false
  · rw [if_pos h1] at h; omega
  · rw [if_neg h1] at h
    cases nm with
    | true => rw [if_pos rfl] at h; omega
    | false =>
      rw [if_neg (by decide)] at h
      by_cases h2 : numOk f.number = false
      · rw [if_pos h2] at h; omega
      · rw [if_neg h2] at h
        cases nu with
        | true => rw [if_pos rfl] at h; omega
        | false => exact ⟨by simpa using h1, rfl, by simpa using h2, rfl⟩
/-- what 'seen' holds while the fields of message i are gone through -/
structure SeenInv (i : Int) (bf : List Fld) (es : List (Met × Value)) : Prop where
  name : ∀ t, nameOk t = true → getOf (i, t, 0) es = seen (nameMet bf t)
  num : ∀ x, numOk x = true → getOf (i, ⟨#[]⟩, x) es = seen (numMet bf x)
  later : ∀ j t x, i < j → getOf (j, t, x) es = none
theorem SeenInv.start (i : Int) : SeenInv i [] [] := ⟨fun _ _ => rfl, fun _ _ => rfl, fun _ _ _ _ => rfl⟩
theorem SeenInv.next {i : Int} {bf : List Fld} {es : List (Met × Value)} (h : SeenInv i bf es) : SeenInv (i + 1) [] es :=
  ⟨fun t _ => h.later _ _ _ (by omega), fun x _ => h.later _ _ _ (by omega), fun j t x hj => h.later _ _ _ (by omega)⟩
theorem SeenInv.step {i : Int} {bf : List Fld} {es : List (Met × Value)} (h : SeenInv i bf es) {f : Fld} (hn : nameOk f.name = true) (_hx : numOk f.number = true) :
    SeenInv i (bf ++ [f]) ((es ++ [((i, f.name, 0), one)]) ++ [((i, ⟨#[]⟩, f.number), one)]) where
  name t ht := by
    rw [getOf_append, getOf_append, h.name t ht]
    have e1 : ¬ ((i, t, (0 : Int)) = ((i, (⟨#[]⟩ : ByteArray), f.number) : Met)) := fun e => nameOk_ne t ht (congrArg (fun x : Met => x.2.1) e)
    have e2 : ((i, t, (0 : Int)) = ((i, f.name, 0) : Met)) ↔ f.name = t := ⟨fun e => (congrArg (fun x : Met => x.2.1) e).symm, fun e => by rw [e]⟩
    have e3 : nameMet (bf ++ [f]) t = (nameMet bf t || decide (f.name = t)) := by simp [nameMet]
    rw [e3]
    simp only [getOf, e1, e2, if_false]
    cases nameMet bf t
    · by_cases e : f.name = t <;> simp [seen, e]
    · simp [seen]
  num x hx' := by
    rw [getOf_append, getOf_append, h.num x hx']
    have e1 : ¬ ((i, (⟨#[]⟩ : ByteArray), x) = ((i, f.name, 0) : Met)) := fun e => nameOk_ne f.name hn (congrArg (fun x : Met => x.2.1) e).symm
    have e2 : ((i, (⟨#[]⟩ : ByteArray), x) = ((i, ⟨#[]⟩, f.number) : Met)) ↔ f.number = x := ⟨fun e => (congrArg (fun x : Met => x.2.2) e).symm, fun e => by rw [e]⟩
    have e3 : numMet (bf ++ [f]) x = (numMet bf x || decide (f.number = x)) := by simp [numMet]
    rw [e3]
    simp only [getOf, e1, e2, if_false]
    cases numMet bf x
    · by_cases e : f.number = x <;> simp [seen, e]
    · simp [seen]
  later j t x hj := by
    rw [getOf_append, getOf_append, h.later j t x hj]
    have e1 : ¬ ((j, t, x) = ((i, f.name, 0) : Met)) := fun e => by have := congrArg (fun x : Met => x.1) e; simp at this; omega
    have e2 : ¬ ((j, t, x) = ((i, ⟨#[]⟩, f.number) : Met)) := fun e => by have := congrArg (fun x : Met => x.1) e; simp at this; omega
    simp [getOf, e1, e2]
def NamesInv (bm : List Mes) (en : List (ByteArray × Value)) : Prop := ∀ t, getOf t en = seen (mesMet bm t)
theorem NamesInv.step {bm : List Mes} {en : List (ByteArray × Value)} (h : NamesInv bm en) (m : Mes) : NamesInv (bm ++ [m]) (en ++ [(m.name, one)]) := by
  intro t
  rw [getOf_append, h t]
  have e3 : mesMet (bm ++ [m]) t = (mesMet bm t || decide (m.name = t)) := by simp [mesMet]
  rw [e3]
  have e2 : t = m.name ↔ m.name = t := ⟨fun e => e.symm, fun e => e.symm⟩
  simp only [getOf, e2]
  cases mesMet bm t
  · by_cases e : m.name = t <;> simp [seen, e]
  · simp [seen]
theorem name_lookup {w : World} {r : Nat} {en : List (ByteArray × Value)} (h : MapIs w r strK en) (t : ByteArray) (b : Bool) (hg : getOf t en = seen b) :
    (Instr.lookup 145 (.map (some r)) (.string t) false).run Try.prog w = .ok (.int .i64 (if b then 1 else 0)) w := by
  have := map_lookup (P := Try.prog) str_ok Try.underlying145 zero_int h t false
  rw [hg] at this
  cases b <;> exact this
theorem name_insert {w : World} {r : Nat} {en : List (ByteArray × Value)} (h : MapIs w r strK en) (t : ByteArray) (hg : getOf t en = none) :
    ∃ w2, (Instr.mapUpdate 145 (.map (some r)) (.string t) (.int .i64 1)).run Try.prog w = .ok () w2 ∧ MapIs w2 r strK (en ++ [(t, one)]) ∧ (∀ W : World, W.grownBy w (some r) → W.grownBy w2 (some r)) ∧
      w2.heap.size = w.heap.size ∧ (∀ b, b ≠ r → w2.heap[b]? = w.heap[b]?) :=
  ⟨_, map_insert (P := Try.prog) str_ok Try.underlying145 h t one hg, putMap_is h.lt, fun _ hW => grown_putMap hW, putMap_size, fun _ hb => putMap_other hb⟩
end Go.Proofs.Ytphkmpnahnakaaa
namespace Go.Proofs.Ytphkmpnahnakaaa
open Go.RowKit
theorem size_mes (w : World) : (sizeOf 47).run Try.prog w = .ok 2 w := by kernel_rfl
theorem size_fld (w : World) : (sizeOf 44).run Try.prog w = .ok 6 w := by kernel_rfl
def placeV (x : Int × Int × Nat) : Value := .agg #[.int .i64 x.1, .int .i64 x.2.1, .int .i64 x.2.2]
def codeOf (x : Int × Int × Nat) : Int := if x.2.2 = 0 then 0 else 9
/-- the block of a result of three numbers, untouched yet -/
def Box3 (w : World) (B : Nat) : Prop := w.heap[B]? = some (.cells #[.int .i64 0, .int .i64 0, .int .i64 0] 124 (0, 0))
theorem Box3.cells {w : World} {B : Nat} (h : Box3 w B) : w.cell? ⟨B, 0, none⟩ = some (.int .i64 0) ∧ w.cell? ⟨B, 1, none⟩ = some (.int .i64 0) ∧ w.cell? ⟨B, 2, none⟩ = some (.int .i64 0) ∧
    w.frozen? ⟨B, 0, none⟩ = false ∧ w.frozen? ⟨B, 1, none⟩ = false ∧ w.frozen? ⟨B, 2, none⟩ = false ∧ B < w.heap.size := by
  unfold Box3 at h
  refine ⟨by simp [World.cell?, h], by simp [World.cell?, h], by simp [World.cell?, h], by simp [World.frozen?, h], by simp [World.frozen?, h], by simp [World.frozen?, h], ?_⟩
  rw [Array.getElem?_eq_some_iff] at h
  exact h.1
/-- all that is kept while messages are gone through: B: the result's block, the maps behind it -/
structure CheckInv (w : World) (B : Nat) (en : List (ByteArray × Value)) (es : List (Met × Value)) (wr : World) : Prop where
  names : MapIs wr (B + 1) strK en
  seen : MapIs wr (B + 1 + 1) metK es
  box : Box3 wr B
  below : Below B w wr
theorem three_new (w : World) (o1 o2 o3 : Obj) : (((w.alloc o1).alloc o2).alloc o3).heap[w.heap.size]? = some o1 ∧ (((w.alloc o1).alloc o2).alloc o3).heap[w.heap.size + 1]? = some o2 ∧ (((w.alloc o1).alloc o2).alloc o3).heap[w.heap.size + 1 + 1]? = some o3 := by
  have e1 : (w.alloc o1).heap.size = w.heap.size + 1 := by simp
  have e2 : ((w.alloc o1).alloc o2).heap.size = w.heap.size + 1 + 1 := by simp
  refine ⟨?_, ?_, ?_⟩
  · rw [Below.heap_alloc _ _ _ (by omega), Below.heap_alloc _ _ _ (by omega)]; exact heap_alloc_new w o1
  · rw [Below.heap_alloc _ _ _ (by omega), ← e1]; exact heap_alloc_new _ o2
  · rw [← e2]; exact heap_alloc_new _ o3
theorem CheckInv.alloc {w : World} {B : Nat} {en : List (ByteArray × Value)} {es : List (Met × Value)} {wr : World} (h : CheckInv w B en es wr) (o : Obj) : CheckInv w B en es (wr.alloc o) := by
  have h1 := h.names.lt
  have h2 := h.seen.lt
  refine ⟨?_, ?_, ?_, h.below.alloc (by omega) o⟩
  · unfold MapIs; rw [Below.heap_alloc wr o _ h1]; exact h.names
  · unfold MapIs; rw [Below.heap_alloc wr o _ h2]; exact h.seen
  · unfold Box3; rw [Below.heap_alloc wr o _ (by omega)]; exact h.box
set_option maxRecDepth 100000 in
set_option maxHeartbeats 20000000 in
theorem schema_Check {w : World} {v : Value} {s : List Mes} (h : SchemaAt w v s) :
    Calls Try.prog 73 #[v] w fun e w' => e = .returned (.tuple #[placeV (scheck s), .int .u8 (codeOf (scheck s))]) ∧ Below w.heap.size w w' := by
  obtain ⟨hlen, a, cap, rfl, hat⟩ := h.open
  have HAT := hid hat
  clear hat
  obtain ⟨n, HN⟩ : ∃ n, Hid (n = s.length) := ⟨_, rfl⟩
  rw [← HN.out] at hlen h ⊢
  obtain ⟨x, HX⟩ : ∃ x, Hid (x = scheck s) := ⟨_, rfl⟩
  rw [← HX.out]
  obtain ⟨B, HB⟩ : ∃ B, Hid (B = w.heap.size) := ⟨_, rfl⟩
  have hwB : w.heap.size ≤ B := by rw [HB.out]; exact Nat.le_refl _
  by_cases hbig : n < 1 ∨ 100 < n
  · obtain rfl : x = (-1, -1, 1) := by
      rw [HX.out, scheck, if_pos (by rw [← HN.out]; omega)]
    rcases hbig with hb | hb
    all_goals
      go_enter Try.func73, Try.ntmps73
      go_wp2
      refine bodyPost_ret (v := .tuple #[placeV (-1, -1, 1), .int .u8 9]) ?_ rfl ⟨rfl, ?_⟩
      · simp [results, Try.results73, go_sem, placeV]
      · (repeat (first | with_reducible exact Below.refl _ _ | with_reducible refine Below.setCell ?_ (by first | omega | (simp; omega) | (simp; done)) _ | with_reducible refine Below.alloc ?_ (by first | omega | (simp; omega) | (simp; done)) _ | with_reducible refine below_drewN ?_ _ | with_reducible refine Below.drew ?_))
  · have hn1 : 1 ≤ n := by omega
    have hn2 : n ≤ 100 := by omega
    clear hbig
    have HGO : Hid (scheckGo n [] s 0 = x) := by rw [Hid, HX.out, scheck, if_neg (by rw [← HN.out]; omega), HN.out]
    have hmm := @run_makeMap Try.prog
    go_enter Try.func73, Try.ntmps73
    go_wp2
    rw [← HB.out]
    go_loopw [25] (fun v25 wr => ∃ k : Nat, k ≤ n ∧ v25 = .int .i64 k ∧ Hid (scheckGo n (s.take k) (s.drop k) k = x) ∧ Hid (∃ en es, CheckInv w B en es wr ∧ NamesInv (s.take k) en ∧ SeenInv k [] es)) (fun v25 _ => n - (intOf v25).toNat)
    case atStart =>
      refine ⟨0, by omega, rfl, HGO.out, [], [], ⟨?_, ?_, ?_, ?_⟩, fun t => rfl, SeenInv.start _⟩
      · unfold MapIs; rw [HB.out]; exact (three_new w _ _ _).2.1
      · unfold MapIs; rw [HB.out]; exact (three_new w _ _ _).2.2
      · unfold Box3; rw [HB.out]; exact (three_new w _ _ _).1
      · rw [HB.out]; (repeat (first | with_reducible exact Below.refl _ _ | with_reducible refine Below.setCell ?_ (by first | omega | (simp; omega) | (simp; done)) _ | with_reducible refine Below.alloc ?_ (by first | omega | (simp; omega) | (simp; done)) _ | with_reducible refine below_drewN ?_ _ | with_reducible refine Below.drew ?_))
    case round =>
      obtain ⟨k, hk, rfl, HK, HI⟩ := hrel
      by_cases hlt : k < n
      · obtain ⟨en, es, HCI, HNI, HSI⟩ : ∃ en es, Hid (CheckInv w B en es wr) ∧ Hid (NamesInv (s.take k) en) ∧ Hid (SeenInv k [] es) := HI.out
        have hgo := scheckGo_at n s k (by rw [← HN.out]; exact hlt)
        rw [HK.out] at hgo
        have HGA := hid hgo
        clear hgo
        have hat := HAT.out
        obtain ⟨b, o, fv, ha, hnsz, hw0, hw1, hfs⟩ := hat k (by rw [← HN.out]; exact hlt)
        clear hat
        have hkw : ∀ p u, w.cell? p = some u → wr.cell? p = some u := fun p u hu => (Below.cell (p := p) HCI.out.below (by rw [HB.out]; exact World.block_lt_of_cell? w p hu)).trans hu
        have hc0 := hkw _ _ hw0
        have hc1 := hkw _ _ hw1
        clear hkw hw0 hw1
        have hix := index_run Try.underlying23 size_mes ha k hlt (cap := cap)
        have HAA := hid ha
        have hbl : b < wr.heap.size := World.block_lt_of_cell? wr _ hc0
        clear ha
        obtain ⟨m, HM⟩ : ∃ m, Hid (m = s.getD k .zero) := ⟨_, rfl⟩
        rw [← HM.out] at hnsz hc0 hfs HGA
        obtain ⟨mn, mf⟩ := m
        simp only at hnsz hc0 hfs HGA
        obtain ⟨hflen, fa, fcap, rfl, hfat⟩ := hfs.open
        have HFS := hid hfs
        obtain ⟨fl, HFL⟩ : ∃ fl, Hid (fl = mf.length) := ⟨_, rfl⟩
        rw [← HFL.out] at hflen hc1
        clear hfs hfat
        go_wp2_with fail
        refine calls_gen _ (fun w1 => Hid (CheckInv w B en es w1) ∧ w1.cell? ⟨wr.heap.size, 0, none⟩ = some (.string mn) ∧ w1.cell? ⟨wr.heap.size, 1, none⟩ = some (.slice fa fl fcap) ∧ Hid (Below wr.heap.size wr w1)) ?_ ?_
        · exact ⟨HCI.out.alloc _, by simp [go_sem], by simp [go_sem], (Below.refl _ _).alloc (Nat.le_refl _) _⟩
        · rintro w1 ⟨HC1, d0, d1, HB1⟩
          obtain ⟨mb, HMB⟩ : ∃ mb, Hid (mb = wr.heap.size) := ⟨_, rfl⟩
          rw [← HMB.out] at d0 d1 ⊢
          have hbx := HC1.out.box.cells
          obtain ⟨x0, x1, x2, y0, y1, y2, hBl⟩ := hbx
          refine (schema_named mn (by omega) _).mono ?_
          rintro e w' ⟨rfl, rfl⟩
          by_cases hnm : nameOk mn = true
          · have HNM := hid hnm
            have HGB := hid HGA.out
            have hgb := HGB.out
            rw [if_neg (by rw [HNM.out]; decide)] at hgb
            have HGC := hid hgb
            clear hgb hnm
            have hmet := HNI.out mn
            cases hmm2 : mesMet (s.take k) mn with
            | true =>
              rw [hmm2] at hmet
              have hl1 := name_lookup HC1.out.names mn true hmet
              simp only [if_true] at hl1
              have HX1 : Hid (x = ((k : Int), -1, 3)) := by rw [Hid, HGC.out, if_pos hmm2]
              have HME := hid hmet
              have HMM2 := hid hmm2
              clear hmet hmm2
              rw [HNM.out]
              go_wp2
              refine bodyPost_ret (v := .tuple #[placeV ((k : Int), -1, 3), .int .u8 9]) ?_ rfl ⟨?_, ?_⟩
              · simp [results, Try.results73, go_sem, placeV, x0, x1, x2]
              · rw [HX1.out]; rfl
              · (repeat (first | with_reducible exact Below.refl _ _ | with_reducible refine Below.setCell ?_ (by first | omega | (simp; omega) | (simp; done)) _ | with_reducible refine Below.alloc ?_ (by first | omega | (simp; omega) | (simp; done)) _ | with_reducible refine below_drewN ?_ _ | with_reducible refine Below.drew ?_))
                exact HC1.out.below.mono hwB
            | false =>
              rw [hmm2] at hmet
              have hl1 := name_lookup HC1.out.names mn false hmet
              simp only [Bool.false_eq_true, if_false] at hl1
              have hgc := HGC.out
              rw [if_neg (by rw [hmm2]; decide)] at hgc
              have HGD := hid hgc
              have HME := hid hmet
              have HMM2 := hid hmm2
              clear hmet hmm2 hgc
              rw [HNM.out]
              by_cases h200 : 200 < fl
              · have HX1 : Hid (x = ((k : Int), -1, 4)) := by rw [Hid, HGD.out, if_pos (by rw [← HFL.out]; exact h200)]
                go_wp2
                refine bodyPost_ret (v := .tuple #[placeV ((k : Int), -1, 4), .int .u8 9]) ?_ rfl ⟨?_, ?_⟩
                · simp [results, Try.results73, go_sem, placeV, x0, x1, x2]
                · rw [HX1.out]; rfl
                · (repeat (first | with_reducible exact Below.refl _ _ | with_reducible refine Below.setCell ?_ (by first | omega | (simp; omega) | (simp; done)) _ | with_reducible refine Below.alloc ?_ (by first | omega | (simp; omega) | (simp; done)) _ | with_reducible refine below_drewN ?_ _ | with_reducible refine Below.drew ?_))
                  exact HC1.out.below.mono hwB
              · have hgd2 := HGD.out
                rw [if_neg (by rw [← HFL.out]; exact h200)] at hgd2
                have HGE := hid hgd2
                clear hgd2
                obtain ⟨w2, hup, hm2, hgr, hsz, hoth⟩ := name_insert HC1.out.names mn HME.out
                have hmbne : mb ≠ B + 1 := cell_ne_map HC1.out.names d0
                have e0 : w2.cell? ⟨mb, 0, none⟩ = some (.string mn) := (World.cell?_of_block (hoth mb hmbne)).trans d0
                have e1 : w2.cell? ⟨mb, 1, none⟩ = some (.slice fa fl fcap) := (World.cell?_of_block (hoth mb hmbne)).trans d1
                have hg1 := hgr w1 (grown_refl _ _)
                have HC2 : Hid (CheckInv w B (en ++ [(mn, one)]) es w2) :=
                  ⟨hm2, (hoth _ (by omega)).trans HC1.out.seen, (hoth _ (by omega)).trans HC1.out.box, HC1.out.below.trans ⟨hg1.os, hg1.tape, hg1.output, hg1.size, fun q hq => hoth q (by omega)⟩⟩
                clear hm2 hgr hoth hg1 hmbne hsz
                go_wp2
                go_loopw [59] (fun v59 wi => ∃ j : Nat, j ≤ fl ∧ v59 = .int .i64 j ∧ Hid (fieldsFault n (mf.take j) (mf.drop j) j = fieldsFault n [] mf 0) ∧ Hid (∃ es, CheckInv w B (en ++ [(mn, one)]) es wi ∧ SeenInv k (mf.take j) es)) (fun v59 _ => fl - (intOf v59).toNat)
                case atStart => exact ⟨0, by omega, rfl, hid rfl, es, HC2.out, HSI.out⟩
                case round =>
                  obtain ⟨j, hj, rfl, HJ, HEI⟩ := hrel
                  by_cases hjl : j < fl
                  · obtain ⟨es2, HC3, HS3⟩ : ∃ es, Hid (CheckInv w B (en ++ [(mn, one)]) es wr) ∧ Hid (SeenInv k (mf.take j) es) := HEI.out
                    have hfi : FieldsAt wr (.slice fa mf.length fcap) mf := HFS.out.keep fun p u hu => (Below.cell (p := p) HC3.out.below (by rw [HB.out]; exact World.block_lt_of_cell? w p hu)).trans hu
                    obtain ⟨-, fa', fcap', hv', hfat⟩ := hfi.open
                    cases hv'
                    rw [← HFL.out] at hfat
                    obtain ⟨fb, fo, hfa, hfok, g0, g1, g2, g3, g4, g5⟩ := hfat j hjl
                    have hixf := index_run Try.underlying45 size_fld hfa j hjl (cap := fcap)
                    have HFA := hid hfa
                    clear hfa hfat hfi
                    obtain ⟨f, HF⟩ : ∃ f, Hid (f = mf.getD j .zero) := ⟨_, rfl⟩
                    rw [← HF.out] at hfok g0 g1 g2 g3 g4 g5
                    have HFO := hid hfok
                    clear hfok
                    have hfst := fieldsFault_at n mf j (by rw [← HFL.out]; exact hjl)
                    rw [HJ.out, ← HF.out] at hfst
                    have HST := hid hfst
                    clear hfst
                    go_wp2_with fail
                    refine calls_gen _ (fun w4 => Hid (CheckInv w B (en ++ [(mn, one)]) es2 w4)) (HC3.out.alloc _) ?_
                    intro w4 HC4
                    refine (schema_field (f := f) (n := n) HFO.out HC4.out.seen (nameMet (mf.take j) f.name) (numMet (mf.take j) f.number) (HS3.out.name _) (HS3.out.num _)).mono ?_
                    rintro e w5 ⟨rfl, hpost⟩
                    have HPO := hid hpost
                    clear hpost
                    obtain ⟨K, HKK⟩ : ∃ K, Hid (K = fieldFault n (nameMet (mf.take j) f.name) (numMet (mf.take j) f.number) f) := ⟨_, rfl⟩
                    rw [← HKK.out] at HST HPO ⊢
                    by_cases hK : K = 0
                    · subst hK
                      have hfo2 := fieldFault_ok HKK.out.symm
                      have hp : MapIs w5 (B + 1 + 1) metK ((es2 ++ [((((k : Int), f.name, 0) : Met), one)]) ++ [((((k : Int), ⟨#[]⟩, f.number) : Met), one)]) ∧ w4.grownBy w5 (some (B + 1 + 1)) := HPO.out
                      have HC5 : Hid (CheckInv w B (en ++ [(mn, one)]) ((es2 ++ [((((k : Int), f.name, 0) : Met), one)]) ++ [((((k : Int), ⟨#[]⟩, f.number) : Met), one)]) w5) := by
                        have h1 := HC4.out.names.lt
                        have h2 := HC4.out.seen.lt
                        refine ⟨(hp.2.block _ h1 (by simp)).trans HC4.out.names, hp.1, (hp.2.block _ (by omega) (by simp; omega)).trans HC4.out.box, HC4.out.below.trans ⟨hp.2.os, hp.2.tape, hp.2.output, hp.2.size, fun q hq => hp.2.block q (by omega) (by simp; omega)⟩⟩
                      have HS5 : Hid (SeenInv k (mf.take (j + 1)) ((es2 ++ [((((k : Int), f.name, 0) : Met), one)]) ++ [((((k : Int), ⟨#[]⟩, f.number) : Met), one)])) := by
                        have e : mf.take (j + 1) = mf.take j ++ [f] := by
                          rw [HF.out, List.take_succ_eq_append_getElem (by rw [← HFL.out]; exact hjl)]
                          simp [List.getD, show j < mf.length by rw [← HFL.out]; exact hjl]
                        rw [Hid, e]
                        exact HS3.out.step hfo2.1 hfo2.2.2.1
                      clear hp hfo2
                      go_wp2
                      go_roundw
                      case rel =>
                        refine ⟨j + 1, by omega, by go_num, ?_, _, HC5.out, HS5.out⟩
                        have := HST.out
                        first | exact this.symm | (rw [if_pos trivial] at this; exact this.symm)
                      case measure => simp [intOf]; omega
                    · have hp : MapIs w5 (B + 1 + 1) metK es2 ∧ w4.grownBy w5 (some (B + 1 + 1)) := by
                        have := HPO.out
                        unfold FieldPost at this
                        rw [if_neg hK] at this
                        exact this
                      have h1 := HC4.out.names.lt
                      have h2 := HC4.out.seen.lt
                      have hb5 : Box3 w5 B := (hp.2.block _ (by omega) (by simp; omega)).trans HC4.out.box
                      have HB5 : Hid (Below B w w5) := HC4.out.below.trans ⟨hp.2.os, hp.2.tape, hp.2.output, hp.2.size, fun q hq => hp.2.block q (by omega) (by simp; omega)⟩
                      obtain ⟨z0, z1, z2, t0, t1, t2, hBl5⟩ := hb5.cells
                      have HX1 : Hid (x = ((k : Int), (j : Int), K)) := by
                        have := HST.out
                        rw [if_neg hK] at this
                        rw [Hid, HGE.out, this]
                      have hK1 : ((K : Int) == 0) = false := by simp; omega
                      have HK0 := hid hK
                      clear hK hp h1 h2 hb5
                      go_wp2
                      refine bodyPost_ret (v := .tuple #[placeV ((k : Int), (j : Int), K), .int .u8 9]) ?_ rfl ⟨?_, ?_⟩
                      · simp [results, Try.results73, go_sem, placeV, z0, z1, z2]
                      · rw [HX1.out]; simp [codeOf, HK0.out]
                      · (repeat (first | with_reducible exact Below.refl _ _ | with_reducible refine Below.setCell ?_ (by first | omega | (simp; omega) | (simp; done)) _ | with_reducible refine Below.alloc ?_ (by first | omega | (simp; omega) | (simp; done)) _ | with_reducible refine below_drewN ?_ _ | with_reducible refine Below.drew ?_))
                        exact HB5.out.mono hwB
                  · obtain rfl : j = fl := by omega
                    obtain ⟨es2, HC3, HS3⟩ : ∃ es, Hid (CheckInv w B (en ++ [(mn, one)]) es wr) ∧ Hid (SeenInv k (mf.take j) es) := HEI.out
                    go_wp2
                    go_roundw
                    case rel =>
                      have e : s.take (k + 1) = s.take k ++ [⟨mn, mf⟩] := by
                        rw [List.take_succ_eq_append_getElem (by rw [← HN.out]; exact hlt)]
                        congr 1
                        have hx := HM.out
                        simp only [List.getD, List.getElem?_eq_getElem (show k < s.length by rw [← HN.out]; exact hlt), Option.getD_some] at hx
                        rw [← hx]
                      refine ⟨k + 1, by omega, by go_num, ?_, _, _, HC3.out, ?_, ?_⟩
                      · have h1 := HJ.out
                        rw [HFL.out, List.drop_length] at h1
                        have h2 := HGE.out
                        rw [← h1] at h2
                        simp only [fieldsFault] at h2
                        exact h2.symm
                      · rw [e]
                        exact NamesInv.step HNI.out ⟨mn, mf⟩
                      · have := HS3.out.next
                        simpa using this
                    case measure => simp [intOf]; omega
          · have hnm2 : nameOk mn = false := by simpa using hnm
            have HX1 : Hid (x = ((k : Int), -1, 2)) := by rw [Hid, HGA.out, if_pos hnm2]
            have HNM := hid hnm2
            clear hnm hnm2
            rw [HNM.out]
            go_wp2
            refine bodyPost_ret (v := .tuple #[placeV ((k : Int), -1, 2), .int .u8 9]) ?_ rfl ⟨?_, ?_⟩
            · simp [results, Try.results73, go_sem, placeV, x0, x1, x2]
            · rw [HX1.out]; rfl
            · (repeat (first | with_reducible exact Below.refl _ _ | with_reducible refine Below.setCell ?_ (by first | omega | (simp; omega) | (simp; done)) _ | with_reducible refine Below.alloc ?_ (by first | omega | (simp; omega) | (simp; done)) _ | with_reducible refine below_drewN ?_ _ | with_reducible refine Below.drew ?_))
              exact HC1.out.below.mono hwB
      · obtain ⟨en, es, HCI, -, -⟩ : ∃ en es, Hid (CheckInv w B en es wr) ∧ Hid (NamesInv (s.take k) en) ∧ Hid (SeenInv k [] es) := HI.out
        obtain ⟨x0, x1, x2, y0, y1, y2, hBl⟩ := HCI.out.box.cells
        have HX1 : Hid (x = (0, 0, 0)) := by
          have h1 := HK.out
          rw [List.drop_of_length_le (by rw [← HN.out]; omega)] at h1
          exact h1.symm
        go_wp2
        refine bodyPost_ret (v := .tuple #[placeV (0, 0, 0), .int .u8 0]) ?_ rfl ⟨?_, ?_⟩
        · simp [results, Try.results73, go_sem, placeV, x0, x1, x2]
        · rw [HX1.out]; rfl
        · (repeat (first | with_reducible exact Below.refl _ _ | with_reducible refine Below.setCell ?_ (by first | omega | (simp; omega) | (simp; done)) _ | with_reducible refine Below.alloc ?_ (by first | omega | (simp; omega) | (simp; done)) _ | with_reducible refine below_drewN ?_ _ | with_reducible refine Below.drew ?_))
          exact HCI.out.below.mono hwB
set_option maxRecDepth 100000 in
theorem schema_Right {w : World} {v : Value} {s : List Mes} (h : SchemaAt w v s) :
    Calls Try.prog 58 #[v] w fun e w' => e = .returned (.bool (sright s)) ∧ Below w.heap.size w w' := by
  have H : Hid (sright s = decide (codeOf (scheck s) = 0)) := by
    unfold Hid sright codeOf
    by_cases e : (scheck s).2.2 = 0 <;> simp [e]
  obtain ⟨x, HX⟩ : ∃ x, Hid (x = scheck s) := ⟨_, rfl⟩
  obtain ⟨c, HC⟩ : ∃ c, Hid (c = codeOf x) := ⟨_, rfl⟩
  go_enter Try.func58, Try.ntmps58
  go_wp2_with (go_at_call 73; refine (schema_Check h).mono ?_; rintro e w1 ⟨rfl, hb⟩; rw [← HX.out, ← HC.out]; unfold placeV)
  go_ret
  have hz : w.heap.size ≤ w1.heap.size := hb.size
  refine ⟨ret1 ?_, by (repeat (first | with_reducible exact Below.refl _ _ | with_reducible refine Below.setCell ?_ (by first | omega | (simp; omega) | (simp; done)) _ | with_reducible refine Below.alloc ?_ (by first | omega | (simp; omega) | (simp; done)) _ | with_reducible refine below_drewN ?_ _ | with_reducible refine Below.drew ?_)); exact hb⟩
  rw [H.out, ← HX.out, ← HC.out]
  show Value.bool (c == 0) = _
  congr 1
end Go.Proofs.Ytphkmpnahnakaaa
namespace Go.Proofs.Ytphkmpnahnakaaa
open Go.RowKit
def boxAt (w : World) (B : Nat) (f : Fld) : Prop := w.heap[B]? = some (.cells #[.string f.name, .int .i64 f.number, .int .i64 f.kind, .bool f.rep, .bool f.packed, .int .i64 f.of] 44 (0, 0))
theorem boxAt.cells {w : World} {B : Nat} {f : Fld} (h : boxAt w B f) : w.cell? ⟨B, 0, none⟩ = some (.string f.name) ∧ w.cell? ⟨B, 1, none⟩ = some (.int .i64 f.number) ∧ w.cell? ⟨B, 2, none⟩ = some (.int .i64 f.kind) ∧
    w.cell? ⟨B, 3, none⟩ = some (.bool f.rep) ∧ w.cell? ⟨B, 4, none⟩ = some (.bool f.packed) ∧ w.cell? ⟨B, 5, none⟩ = some (.int .i64 f.of) ∧ B < w.heap.size := by
  unfold boxAt at h
  refine ⟨by simp [World.cell?, h], by simp [World.cell?, h], by simp [World.cell?, h], by simp [World.cell?, h], by simp [World.cell?, h], by simp [World.cell?, h], ?_⟩
  rw [Array.getElem?_eq_some_iff] at h
  exact h.1
end Go.Proofs.Ytphkmpnahnakaaa
namespace Go.Proofs.Ytphkmpnahnakaaa
open Go.RowKit
end Go.Proofs.Ytphkmpnahnakaaa
