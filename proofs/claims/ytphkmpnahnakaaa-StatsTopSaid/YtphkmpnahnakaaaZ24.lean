/- darningref11.Is; what a check without a fault tells. Bytes of at most 2 to the 40. stats.read: the book of any message, or why there is none. At most 2^30 bytes. slices.Sorted(maps.Keys(m)) of a map of the call's own, by strings. At most 2^30 entries. Plain laws: how long paths of rows are. No condition. A []string of the call's own (StrsOwn): one more string appended. At most 2^40 strings. stats.Of: the rows of any message, or why there are none. At most 2^30 bytes. Rows are the same just if their parts are. No condition. Literals: a block of the call's own, read as words, fields, a schema, values. No condition. -/
import Derived.Test.YtphkmpnahnakaaaShelf
import Derived.Test.YtphkmpnahnakaaaZ03
import Derived.Test.YtphkmpnahnakaaaZ04
import Derived.Test.YtphkmpnahnakaaaZ07
import Derived.Test.YtphkmpnahnakaaaZ11
import Derived.Test.YtphkmpnahnakaaaZ13
import Derived.Test.YtphkmpnahnakaaaZ14
import Derived.Test.YtphkmpnahnakaaaZ15
import Derived.Test.YtphkmpnahnakaaaZ18
import Derived.Test.YtphkmpnahnakaaaZ21
import Derived.Test.YtphkmpnahnakaaaZ23
import Derived.Shelf.SlIter.Nil
import Derived.Shelf.SortM.Plain
import Derived.Shelf.SortM.SortNone
import Derived.Laws.StructEq
namespace Go.Proofs.Ytphkmpnahnakaaa
open Go.RowKit
theorem vcheck_ok {s : List Mes} {root d : Int} {l : List UInt8} (h : (vcheck s root l d).2 = 0) : sright s = true ∧ (0 ≤ root ∧ root < s.length) ∧ (0 ≤ d ∧ d ≤ 64) ∧ (vmsg s d.toNat root.toNat l).2 = 0 := by
  unfold vcheck at h
  by_cases h0 : argsCode s root d = 0
  · rw [if_neg (by omega)] at h
    obtain ⟨h1, h2, h3, h4, h5⟩ := args_ok h0
    exact ⟨h1, ⟨h2, h3⟩, ⟨h4, h5⟩, h⟩
  · rw [if_pos h0] at h; exact absurd h h0
end Go.Proofs.Ytphkmpnahnakaaa
namespace Go.Proofs.Ytphkmpnahnakaaa
open Go.RowKit Go.Shelf
def ReadPost (w : World) (sv : Value) (s : List Mes) (root d : Int) (l : List UInt8) (z : Nat) (e : Ending) (w' : World) : Prop :=
  Below w.heap.size w w' ∧ (z ≠ 0 → e = .returned (.tuple #[.pointer none, .int .u8 (z : Nat)])) ∧
  (z = 0 → ∃ K r B1 G Wg W5 es dv, e = .returned (.tuple #[.pointer (some ⟨K, 0, none⟩), .int .u8 0]) ∧ w.heap.size ≤ W5.heap.size ∧
    BookI W5.heap.size B1 K r sv G Wg W5 (evsub s (d.toNat + 1) root l emptyS) ((evsub s (d.toNat + 1) root l emptyS).length : Nat) none es dv (dmsg s (d.toNat + 1) root l 0 []) w')
set_option maxRecDepth 100000 in
set_option maxHeartbeats 8000000 in
theorem stats_read {w : World} {sv bv : Value} {s : List Mes} {l : List UInt8} (hS : SchemaAt w sv s) (hb : Bytes w bv l) (hl : l.length ≤ 1073741824) (root d : Int) :
    Calls Try.prog 13 #[sv, .int .i64 root, bv, .int .i64 d] w (ReadPost w sv s root d l (vcheck s root l d).2) := by
  have HC := hid (valid_Check hS hb root d)
  have HS := hid hS
  have HBY := hid hb
  have HLL := hid hl
  obtain ⟨-, sa, sc, rfl, -⟩ := hS.open
  obtain ⟨-, a, c, rfl, -⟩ := hb.open
  obtain ⟨z, HZ⟩ : ∃ z, Hid (z = (vcheck s root l d).2) := ⟨_, rfl⟩
  obtain ⟨z1, HZ1⟩ : ∃ z, Hid (z = (vcheck s root l d).1) := ⟨_, rfl⟩
  rw [← HZ.out, ← HZ1.out] at HC
  rw [← HZ.out]
  obtain ⟨sn, HSN⟩ : ∃ n, Hid (n = s.length) := ⟨_, rfl⟩
  obtain ⟨n, HN⟩ : ∃ n, Hid (n = l.length) := ⟨_, rfl⟩
  rw [← HSN.out, ← HN.out] at HC ⊢
  rw [← HSN.out] at HS
  rw [← HN.out] at HBY
  obtain ⟨Q, HQ⟩ : ∃ Q : Ending → World → Prop, Hid (Q = ReadPost w (.slice sa sn sc) s root d l z) := ⟨_, rfl⟩
  rw [← HQ.out]
  clear hS hb hl
  have hmm := @run_makeMap Try.prog
  go_enter Try.func13, Try.ntmps13
  go_wp2_with fail
  refine HC.out.mono ?_
  rintro e w1 ⟨rfl, hb1⟩
  have HB1 := hid hb1
  clear hb1 HC
  by_cases hz : z = 0
  · subst hz
    obtain ⟨g1, ⟨g2, g3⟩, ⟨g4, g5⟩, g6⟩ := vcheck_ok HZ.out.symm
    obtain ⟨q, rfl⟩ : ∃ q : Nat, root = q := ⟨root.toNat, by omega⟩
    rw [Int.toNat_natCast] at g6
    obtain ⟨r, HR⟩ : ∃ r, Hid (r = w1.heap.size) := ⟨_, rfl⟩
    obtain ⟨W2, HW2⟩ : ∃ W, Hid (W = w1.alloc (.map #[] 0)) := ⟨_, rfl⟩
    obtain ⟨W3, HW3⟩ : ∃ W, Hid (W = W2.alloc (.cells #[.slice sa sn sc, .map (some r), .slice none 0 0, .int .i64 0] 53)) := ⟨_, rfl⟩
    have hz2 : W2.heap.size = r + 1 := by rw [HW2.out, HR.out]; simp
    have hz3 : W3.heap.size = r + 1 + 1 := by rw [HW3.out, ← hz2]; simp
    have hb2 : Below w1.heap.size w1 W2 := by rw [HW2.out]; exact (Below.refl _ _).alloc (Nat.le_refl _) _
    have hb3 : Below W2.heap.size W2 W3 := by rw [HW3.out]; exact (Below.refl _ _).alloc (Nat.le_refl _) _
    have hb13 : Below w1.heap.size w1 W3 := hb2.trans (hb3.mono hb2.size)
    have hm2 : MapIs W2 r strK [] := by rw [HW2.out, HR.out]; exact heap_alloc_new w1 _
    have hm3 : MapIs W3 r strK [] := (hb3.block _ (by omega)).trans hm2
    have hk3 : Blk W3 (r + 1) [.slice sa sn sc, .map (some r), .slice none 0 0, .int .i64 0] 53 := by rw [HW3.out, ← hz2]; exact Blk.new W2 [.slice sa sn sc, .map (some r), .slice none 0 0, .int .i64 0] _
    have hI := BookI.start (B0 := w1.heap.size) (B1 := r + 1 + 1) (K := r + 1) (r := r) (W5 := w1) hb13 (by omega) ⟨by rw [← HR.out]; omega, by omega⟩ ⟨by rw [← HR.out]; omega, by omega, by omega⟩ hk3 hm3
    have hsm : SmallE ([] ++ evsub s (d.toNat + 1) (q : Int) l emptyS) := by rw [List.nil_append]; exact evsub_small _ _ _ _ _ HLL.out
    have HM := hid (book_message g1 (HS.out.below HB1.out) d.toNat _ W3 q W3 _ l emptyS 0 [] [] _ [] (by omega) hI (HBY.out.below HB1.out) HLL.out g6 hsm (Nat.zero_le _) (by omega) (by simp [emptyS, ByteArray.size]) (by simp))
    simp only [List.nil_append, Int.natCast_zero] at HM
    change Hid (Calls _ _ #[_, _, _, .string ⟨#[]⟩, _] _ _) at HM
    have HZ2 := hid hz2
    clear hz2 hz3 hb2 hb3 hb13 hm2 hm3 hk3 hI hsm g1 g2 g3 g4 g5 g6
    go_upto_region 5 with fail
    rw [← HR.out]
    rw [← HW2.out]
    rw [← HW3.out]
    go_wp2_with fail
    refine HM.out.mono ?_
    rintro e w4 ⟨rfl, es, dv, hI4, -⟩
    have HE : Hid (Q (.returned (.tuple #[.pointer (some ⟨r + 1, 0, none⟩), .int .u8 0])) w4) := by
      rw [HQ.out]
      exact ⟨HB1.out.trans (hI4.below.mono HB1.out.size), fun h => absurd rfl h, fun _ => ⟨_, _, _, _, _, _, _, _, rfl, HB1.out.size, hI4⟩⟩
    clear hI4 HM
    go_wp2_with fail
    exact HE.out
  · have hzc : ((z : Int) == 0) = false := by simpa using hz
    have hzn : ((z : Int) != 0) = true := by simpa using hz
    have HE : Hid (Q (.returned (.tuple #[.pointer none, .int .u8 (z : Nat)])) w1) := by
      rw [HQ.out]
      exact ⟨HB1.out, fun _ => rfl, fun h => absurd h hz⟩
    clear hz
    go_wp2_with fail
    exact HE.out
end Go.Proofs.Ytphkmpnahnakaaa
namespace Go.Proofs.Ytphkmpnahnakaaa
open Go.RowKit Go.Maps Go.Sort Go.Shelf
def RU (_ : Value) : Option (DataW Unit × List MemPlace) := some (.lit (.bool true), [])
theorem entL_mem {es : List (ByteArray × Value)} : ∀ {i : Nat} {x : MapEntry}, x ∈ entL strK es i → ∃ p v, (p, v) ∈ es ∧ x.key = .string p ∧ i ≤ x.born ∧ x.born < i + es.length := by
  induction es with
  | nil => intro i x h; cases h
  | cons e r ih =>
    obtain ⟨p, v⟩ := e
    intro i x h
    rw [entL] at h
    rcases List.mem_cons.1 h with rfl | h
    · exact ⟨p, v, by simp, rfl, Nat.le_refl _, by simp⟩
    · obtain ⟨q, u, h1, h2, h3, h4⟩ := ih h
      exact ⟨q, u, by simp [h1], h2, by omega, by simp; omega⟩
theorem entL_born {es : List (ByteArray × Value)} : ∀ i : Nat, ((entL strK es i).map (·.born)).Nodup := by
  induction es with
  | nil => intro i; simp [entL]
  | cons e r ih =>
    obtain ⟨p, v⟩ := e
    intro i
    rw [entL, List.map_cons, List.nodup_cons]
    refine ⟨fun h => ?_, ih (i + 1)⟩
    obtain ⟨x, hx, e⟩ := List.mem_map.1 h
    obtain ⟨-, -, -, -, h3, -⟩ := entL_mem hx
    simp only at e
    omega
theorem entL_keys {es : List (ByteArray × Value)} : ∀ i : Nat, (entL strK es i).map (·.key) = (es.map Prod.fst).map strK := by
  induction es with
  | nil => intro i; rfl
  | cons e r ih =>
    obtain ⟨p, v⟩ := e
    intro i
    rw [entL, List.map_cons, ih]; rfl
theorem insert_perm (x : Lit × DataW Unit) : ∀ l : List (Lit × DataW Unit), (DataW.insert x l).Perm (x :: l)
  | [] => List.Perm.refl _
  | y :: r => by
    rw [DataW.insert]
    split
    · exact List.Perm.refl _
    · exact ((insert_perm x r).cons y).trans (List.Perm.swap x y r)
theorem foldr_perm : ∀ l : List (Lit × DataW Unit), (l.foldr DataW.insert []).Perm l
  | [] => List.Perm.refl _
  | x :: r => (insert_perm x _).trans ((foldr_perm r).cons x)
set_option maxRecDepth 100000 in
theorem owns_str {w : World} {r : Nat} {es : List (ByteArray × Value)} (h : MapIs w r strK es) (hn : es.length ≤ 1073741824) (hd : (es.map Prod.fst).Nodup) (hsz : ∀ p ∈ es.map Prod.fst, p.size ≤ 1073741824) :
    ∃ D0 : DataW Unit, w.ownsMap Try.prog 9 RU r es.length D0 ∧ (strKeys D0).Perm (es.map fun e => e.1.data.toList) ∧ Maps.size D0 = es.length := by
  refine ⟨_, ⟨(entL strK es 0).toArray, es.length, h, ⟨by simp [entL_len]; unfold maxLen; omega, ⟨fun x hx => ?_, by simpa using entL_born 0, ?_⟩, fun x hx => ?_⟩, by simp [entL_len], rfl⟩, ?_, ?_⟩
  · obtain ⟨-, -, -, -, -, h4⟩ := entL_mem (by simpa using hx)
    omega
  · show ((entL strK es 0).toArray.toList.map (·.key)).Nodup
    rw [List.toList_toArray, entL_keys]
    exact List.Pairwise.map _ (fun a b hab e => hab (by unfold strK at e; injection e)) hd
  · obtain ⟨p, v, h1, h2, -, -⟩ := entL_mem (i := 0) (by simpa using hx)
    have hp : p.size ≤ maxLen := by
      have := hsz p (List.mem_map.2 ⟨_, h1, rfl⟩)
      unfold maxLen; omega
    refine ⟨(.string p.data.toList, .lit (.bool true)), ?_⟩
    unfold Go.WideElems.rd
    rw [h2, Go.WideMaps.keyOf_string_mk Try.underlying9 hp]
    rfl
  · have hp := foldr_perm ((entL strK es 0).toArray.toList.map (Go.WideElems.rg Try.prog 9 RU))
    refine (hp.map fun p => strOf p.1).trans ?_
    rw [List.toList_toArray, List.map_map]
    have : ∀ (l : List (ByteArray × Value)) (i : Nat), (∀ p ∈ l.map Prod.fst, p.size ≤ 1073741824) → (entL strK l i).map ((fun p => strOf p.1) ∘ Go.WideElems.rg Try.prog 9 RU) = l.map fun e => e.1.data.toList := by
      intro l
      induction l with
      | nil => intro i _; rfl
      | cons e r ih =>
        obtain ⟨p, v⟩ := e
        intro i hl
        rw [entL, List.map_cons, ih (i + 1) fun q hq => hl q (by simp at hq ⊢; exact .inr hq), List.map_cons]
        congr 1
        have hp : p.size ≤ maxLen := by
          have := hl p (by simp)
          unfold maxLen; omega
        show strOf (Go.WideElems.rg Try.prog 9 RU ⟨strK p, v, i⟩).1 = _
        unfold Go.WideElems.rg Go.WideElems.rd
        show strOf (((keyOf Try.prog 9 (.string p)).bind fun key => (RU v).map fun y => (key, y.1)).getD (.bool false, .nil)).1 = _
        rw [Go.WideMaps.keyOf_string_mk Try.underlying9 hp]
        rfl
    rw [this es 0 hsz]
  · show (List.foldr DataW.insert [] _).length = _
    rw [(foldr_perm _).length_eq]
    simp [entL_len]
theorem Try.sortsA (m : Nat) : AnyZ.SortsIn Try.prog Try.sortedA_ren Fence.wide m :=
  ⟨fun blk off cap ss W hH hblk hsz => callsIn_wide.2 (AnyM.slices_Sort_string Try.sortA blk off cap ss W hH hblk hsz),
   fun p cap W => callsIn_wide.2 (AnyM.slices_Sort_string_none Try.sortA p cap W)⟩
theorem maps_Keys (mb : Option Nat) (W : World) : Calls Try.prog 15 #[.map mb] W fun e w' => e = .returned (.func (.func 25) #[] #[.pointer (some ⟨W.heap.size, 0, none⟩)]) ∧ w' = W.alloc (.cells #[.map mb] 51) :=
  (callsIn_wide (n := 5)).1 (AnyZ.keys_in Try.keysA Fence.wide 5 trivial rfl mb W)
set_option maxHeartbeats 4000000 in
theorem sorted_Keys {w : World} {r : Nat} {es : List (ByteArray × Value)} (h : MapIs w r strK es) (hn : es.length ≤ 1073741824) (hd : (es.map Prod.fst).Nodup) (hsz : ∀ p ∈ es.map Prod.fst, p.size ≤ 1073741824) :
    Calls Try.prog 14 #[.func (.func 25) #[] #[.pointer (some ⟨w.heap.size, 0, none⟩)]] (w.alloc (.cells #[.map (some r)] 51)) fun e w' => ∃ (v : Value) (ss : List (List UInt8)), e = .returned v ∧ ss.Perm (es.map fun e => e.1.data.toList) ∧
      w'.ownsRow (w.heap.size + 1) 9 1 v ss.length ((ss.mergeSort (fun x y => decide (x ≤ y))).map encStr) ∧ Below (w.heap.size + 1) (w.alloc (.cells #[.map (some r)] 51)) w' := by
  obtain ⟨D0, hown, hperm, hsize⟩ := owns_str h hn hd hsz
  have hbl := hown.lt
  have hseq : SeqGives Fence.wide 2 Try.prog 25 #[.pointer (some ⟨w.heap.size, 0, none⟩)] encStr (fun ss => ss.Perm (strKeys D0)) (Maps.size D0) (w.alloc (.cells #[.map (some r)] 51)) :=
    AnyZ.keys_gives (ρ := Try.keysA_ren) { Try.keysA with } Fence.wide _ trivial rfl (by omega) w.heap.size r es.length D0 _ (by simp) (by simp) (by
      obtain ⟨es', clock, hb, Ft, hs, hD⟩ := hown
      exact ⟨es', clock, (Below.heap_alloc _ _ r hbl).trans hb, Ft, hs, hD⟩)
  have cS := AnyZ.sorted_in Try.sortedA Fence.wide 5 trivial trivial trivial trivial rfl (by omega) (Try.sortsA _) (enters_of Try.func24 (by kernel_rfl) rfl) 25 #[.pointer (some ⟨w.heap.size, 0, none⟩)] trivial (enters_of Try.func25 (by kernel_rfl) rfl) _ _ (by rw [hsize]; unfold maxLen; omega) (by rw [hsize]; omega) _ hseq
  change CallsIn _ _ Try.prog 14 _ _ _ at cS
  refine ((callsIn_wide (n := 5)).1 cS).mono ?_
  rintro e w' ⟨v, ss, rfl, hS, hrow, -, hb⟩
  rw [World.size_alloc] at hrow hb
  exact ⟨v, ss, rfl, hS.trans hperm, hrow, hb⟩
end Go.Proofs.Ytphkmpnahnakaaa
namespace Go.Proofs.Ytphkmpnahnakaaa
open Go.RowKit
/-- how long the paths are -/
theorem evsub_psize {s : List Mes} (hs : sright s = true) : ∀ (d m : Nat) (l : List UInt8) (p : ByteArray), m < s.length → (vmsg s d m l).2 = 0 → ∀ e ∈ evsub s (d + 1) (m : Int) l p, e.path.size ≤ p.size + 61 * (d + 1) := by
  have hone : ∀ (p n : ByteArray), n.size ≤ 60 → (underS p n).size ≤ p.size + 61 := fun p n h => by
    unfold underS
    split
    · omega
    · rw [ByteArray.size_append, ByteArray.size_append]
      have : (⟨#[46]⟩ : ByteArray).size = 1 := rfl
      omega
  intro d
  induction d with
  | zero =>
    intro m l p hm hv e he
    rw [evsub_views] at he
    obtain ⟨x, hx, he⟩ := List.mem_flatMap.1 he
    have hxo := (vall_ok hv).2 x hx
    unfold evV evA at he
    rcases List.mem_cons.1 he with rfl | he
    · have := hone p _ (nameOf_size hs hm hxo).2
      exact Nat.le_trans this (by omega)
    · split at he
      · cases he
      · cases he
  | succ d ih =>
    intro m l p hm hv e he
    rw [evsub_views] at he
    obtain ⟨x, hx, he⟩ := List.mem_flatMap.1 he
    have hxo := (vall_ok hv).2 x hx
    have h1 := hone p _ (nameOf_size hs hm hxo).2
    by_cases hc : 0 ≤ x.k ∧ ((s.getD m .zero).fields.getD x.k.toNat .zero).kind = 17
    · rw [(evV_sub hc 0 []).1] at he
      rcases List.mem_cons.1 he with rfl | he
      · exact Nat.le_trans h1 (by omega)
      · obtain ⟨hc1, hc2⟩ := hc
        obtain ⟨k, hk⟩ : ∃ k : Nat, x.k = k := ⟨x.k.toNat, by omega⟩
        rw [hk, Int.toNat_natCast] at hc2
        rw [hk, Int.toNat_natCast] at he
        obtain ⟨d', e1, e2⟩ := hxo.sub hk hc2
        obtain rfl : d = d' := by omega
        obtain ⟨-, -, -, hf⟩ := hxo.facts
        have hkl : k < (s.getD m .zero).fields.length := by
          rcases hf with ⟨h, -⟩ | ⟨k', h1, h2, -⟩
          · omega
          · omega
        obtain ⟨g1, g2⟩ := (sright_field hs m hm _ (getD_memS _ k .zero hkl)).2.1 hc2
        obtain ⟨o, ho⟩ : ∃ o : Nat, ((s.getD m .zero).fields.getD k .zero).of = o := ⟨_, (Int.toNat_of_nonneg g1).symm⟩
        rw [ho] at he e2
        rw [Int.toNat_natCast] at e2
        have h2 := ih o _ _ (by omega) e2 e he
        rw [hk] at h1
        omega
    · rw [(evV_none hc 0 []).1] at he
      rcases List.mem_cons.1 he with rfl | he
      · exact Nat.le_trans h1 (by omega)
      · cases he
end Go.Proofs.Ytphkmpnahnakaaa
namespace Go.Proofs.Ytphkmpnahnakaaa
open Go.RowKit
/-- A []string of the call's own. -/
def StrsOwn (w : World) (base : Nat) (v : Value) (l : List (List UInt8)) : Prop := w.ownsRow base 9 1 v l.length (l.map strV)
theorem info_string : (Try.prog.info? 9).map (fun i => (i.zero, i.size, i.bytes)) = some (some (.string ⟨#[]⟩), 1, 16) := by kernel_rfl
theorem under_strl : Try.prog.underlying 54 = some (.slice 9) := Try.underlying54
theorem StrsOwn.form {w : World} {base : Nat} {v : Value} {l : List (List UInt8)} (h : StrsOwn w base v l) : ∃ a c, v = .slice a l.length c := by
  rcases h.2 with ⟨h1, h2⟩ | ⟨g, cap, cur, hv, -⟩
  · exact ⟨none, 0, by rw [h1, h2]⟩
  · exact ⟨_, _, hv⟩
theorem StrsOwn.strs {w : World} {base : Nat} {v : Value} {l : List (List UInt8)} (h : StrsOwn w base v l) (hn : l.length ≤ 140737488355328) (hl : ∀ t ∈ l, t.length ≤ 140737488355328) : StrsAt w v l :=
  ⟨row_seg h hn, hl⟩
/-- one more string, laid in a block of its own ahead of the append -/
theorem StrsOwn.one {W : World} {base : Nat} {v : Value} {l : List (List UInt8)} (h : StrsOwn W base v l) (t : List UInt8) (hn : l.length + 1 ≤ 1099511627777) (hB : base ≤ W.heap.size) :
    ∃ v' w', (Builtin.append_ #[54, 54] 54 #[v, .slice (some ⟨W.heap.size, 0, none⟩) 1 1]).run Try.prog (W.alloc (.cells #[strV t] 9)) = .ok v' w' ∧ StrsOwn w' base v' (l ++ [t]) ∧ W.grownBy w' v.ownBlock := by
  have hA : Below W.heap.size W (W.alloc (.cells #[strV t] 9)) := (Below.refl _ _).alloc (Nat.le_refl _) _
  have hx : Seg (W.alloc (.cells #[strV t] 9)) (.slice (some ⟨W.heap.size, 0, none⟩) 1 1) 1 1 [strV t] := seg_blk (Blk.new W [strV t] _) 1 1 rfl (by omega)
  have h' : (W.alloc (.cells #[strV t] 9)).ownsRow base 9 1 v l.length (l.map strV) := row_keep h fun b _ _ he => hA.block b (Array.getElem?_eq_some_iff.1 he).1
  obtain ⟨v', w', h1, h2, h3, -⟩ := seg_append (P := Try.prog) _ base 54 54 9 (.string ⟨#[]⟩) 1 16 under_strl info_string rfl (by decide) v _ l.length 1 _ _ h' hx (by intro u hu; simp at hu; subst hu; rfl) (by omega) (by omega) (by simp; omega)
  refine ⟨v', w', h1, ?_, ?_⟩
  · unfold StrsOwn
    rw [List.length_append, List.map_append]
    exact h2
  · exact ⟨h3.os, h3.tape, h3.output, Nat.le_trans (by simp) h3.size, fun k hk hr => (h3.block k (by simp; omega) hr).trans (Below.heap_alloc W _ k hk)⟩
end Go.Proofs.Ytphkmpnahnakaaa
namespace Go.Proofs.Ytphkmpnahnakaaa
open Go.RowKit Go.Shelf
def srC (x : SR) : List Value := [.string x.path, .int .i64 (x.recs : Int), .int .i64 (x.bytes : Int), .int .i64 (x.vals : Int)]
def srP (_ : World) (r : List Value) (x : SR) : Prop := r = srC x
theorem info_srow : (Try.prog.info? 32).map (fun i => (i.zero, i.size, i.bytes)) = some (some (.agg #[.string ⟨#[]⟩, .int .i64 0, .int .i64 0, .int .i64 0]), 4, 40) := by kernel_rfl
def mkB (t : List UInt8) : ByteArray := ⟨t.toArray⟩
def OfPost (w : World) (s : List Mes) (root d : Int) (l : List UInt8) (z : Nat) (e : Ending) (w' : World) : Prop :=
  Below w.heap.size w w' ∧ (z ≠ 0 → e = .returned (.tuple #[.slice none 0 0, .int .u8 (z : Nat)])) ∧
  (z = 0 → ∃ (v : Value) (ss : List (List UInt8)) (base : Nat), e = .returned (.tuple #[v, .int .u8 0]) ∧ KeysOf (evsub s (d.toNat + 1) root l emptyS) ((ss.mergeSort fun x y : List UInt8 => decide (x ≤ y)).map mkB) ∧ w.heap.size ≤ base ∧
    RowsOwn srP 32 4 0 base w' v (rowsS (evsub s (d.toNat + 1) root l emptyS) ((ss.mergeSort fun x y : List UInt8 => decide (x ≤ y)).map mkB) l.length))
theorem keys_of {t : List SE} {es : List (ByteArray × Value)} {ss : List (List UInt8)} (hp : ss.Perm (es.map fun e => e.1.data.toList)) (hd : (es.map Prod.fst).Nodup) (hk : ∀ p, (getOf p es).isSome = true ↔ (∃ e ∈ t, e.path = p) ∨ (none : Option ByteArray) = some p) :
    KeysOf t ((ss.mergeSort fun x y : List UInt8 => decide (x ≤ y)).map mkB) := by
  have h1 : ((ss.mergeSort fun x y : List UInt8 => decide (x ≤ y)).map mkB).Perm (es.map Prod.fst) := by
    have h := ((List.mergeSort_perm ss fun x y : List UInt8 => decide (x ≤ y)).trans hp).map mkB
    rw [List.map_map] at h
    exact h
  refine ⟨h1.nodup_iff.2 hd, fun p => ?_⟩
  rw [h1.mem_iff]
  constructor
  · intro h
    rcases (hk p).1 (mem_getOf h) with h | h
    · exact h
    · cases h
  · intro h
    have h2 := (hk p).2 (.inl h)
    cases hg : getOf p es with
    | none => rw [hg] at h2; cases h2
    | some v => exact List.mem_map.2 ⟨_, getOf_mem hg, rfl⟩
set_option maxRecDepth 100000 in
set_option maxHeartbeats 8000000 in
theorem stats_Of {w : World} {sv bv : Value} {s : List Mes} {l : List UInt8} (hS : SchemaAt w sv s) (hb : Bytes w bv l) (hl : l.length ≤ 1073741824) (root d : Int) :
    Calls Try.prog 8 #[sv, .int .i64 root, bv, .int .i64 d] w (OfPost w s root d l (vcheck s root l d).2) := by
  have HC := hid (stats_read hS hb hl root d)
  obtain ⟨T, HT⟩ : ∃ T, Hid (T = evsub s (d.toNat + 1) root l emptyS) := ⟨_, rfl⟩
  have HTL : Hid (T.length ≤ 1073741824) := by rw [Hid, HT.out]; exact (evsub_small _ _ _ _ _ hl).1
  have HTP : Hid ((vcheck s root l d).2 = 0 → ∀ e ∈ T, e.path.size ≤ 1073741824) := fun hz e he => by
    obtain ⟨g1, ⟨g2, g3⟩, ⟨g4, g5⟩, g6⟩ := vcheck_ok hz
    obtain ⟨q, rfl⟩ : ∃ q : Nat, root = q := ⟨root.toNat, by omega⟩
    rw [Int.toNat_natCast] at g6
    rw [HT.out] at he
    have := evsub_psize g1 d.toNat q l emptyS (by omega) g6 e he
    have h0 : emptyS.size = 0 := rfl
    omega
  obtain ⟨-, sa, sc, rfl, -⟩ := hS.open
  obtain ⟨-, a, c, rfl, -⟩ := hb.open
  obtain ⟨z, HZ⟩ : ∃ z, Hid (z = (vcheck s root l d).2) := ⟨_, rfl⟩
  obtain ⟨n, HN⟩ : ∃ n, Hid (n = l.length) := ⟨_, rfl⟩
  unfold ReadPost at HC
  rw [← HZ.out, ← HT.out] at HC
  rw [← HZ.out] at HTP ⊢
  rw [← HN.out] at HC hl ⊢
  obtain ⟨Q, HQ⟩ : ∃ Q : Ending → World → Prop, Hid (Q = OfPost w s root d l z) := ⟨_, rfl⟩
  rw [← HQ.out]
  clear hS hb
  go_enter Try.func8, Try.ntmps8
  go_wp2_with fail
  refine HC.out.mono ?_
  rintro e w3 ⟨hb3, h0, h1⟩
  have HB3 := hid hb3
  by_cases hz : z = 0
  · subst hz
    obtain ⟨K, r, B1, G, Wg, W5, es, dv, rfl, hW5, hI⟩ := h1 rfl
    have HI3 := hid hI
    obtain ⟨T1, HT1⟩ : ∃ n, Hid (n = T.length) := ⟨_, rfl⟩
    have ht1 : T1 ≤ 1073741824 := by rw [HT1.out]; exact HTL.out
    have k3 := hI.blk.cell 3 _ rfl
    have kl := hI.blk.lt
    rw [← HT1.out] at k3
    obtain ⟨b0, HB0⟩ : ∃ b, Hid (b = w3.heap.size) := ⟨_, rfl⟩
    obtain ⟨W4, HW4⟩ : ∃ W, Hid (W = w3.alloc (.cells #[.string ⟨#[]⟩, .int .i64 (T1 : Int), .int .i64 (n : Int), .int .i64 (n : Int)] 32)) := ⟨_, rfl⟩
    have hb34 : Below w3.heap.size w3 W4 := by rw [HW4.out]; exact (Below.refl _ _).alloc (Nat.le_refl _) _
    have hk4 : Blk W4 b0 [.string ⟨#[]⟩, .int .i64 (T1 : Int), .int .i64 (n : Int), .int .i64 (n : Int)] 32 := by rw [HW4.out, HB0.out]; exact Blk.new w3 [.string ⟨#[]⟩, .int .i64 (T1 : Int), .int .i64 (n : Int), .int .i64 (n : Int)] _
    have hsz4 : W4.heap.size = b0 + 1 := by rw [HW4.out, HB0.out]; simp
    have hR4 : RowsOwn srP 32 4 0 b0 W4 (.slice (some ⟨b0, 0, none⟩) 1 1) [(⟨emptyS, T1, n, n⟩ : SR)] := by
      refine ⟨[srC ⟨emptyS, T1, n, n⟩], rfl, by simp [srC], ⟨rfl, .inr ⟨b0, 1, _, rfl, Nat.le_refl _, hk4, Nat.le_refl _, by unfold maxLen; omega, rfl, rfl⟩⟩, fun w' _ i r x hr hx => ?_⟩
      match i, hr, hx with
      | 0, hr, hx =>
        injection hr with hr
        injection hx with hx
        subst hr
        subst hx
        exact rfl
    have hI4 := hI.later hb34
    have hlen : es.length ≤ 1073741824 := by
      have h2 := nodup_le (a := es.map Prod.fst) (b := T.map SE.path) hI.nd fun p hp => by
        rcases (hI.keys p).1 (mem_getOf hp) with ⟨e, he, h2⟩ | h2
        · exact List.mem_map.2 ⟨e, he, h2⟩
        · cases h2
      rw [List.length_map, List.length_map] at h2
      exact Nat.le_trans h2 HTL.out
    have hsz : ∀ p ∈ es.map Prod.fst, p.size ≤ 1073741824 := fun p hp => by
      rcases (hI.keys p).1 (mem_getOf hp) with ⟨e, he, h2⟩ | h2
      · rw [← h2]; exact HTP.out rfl e he
      · cases h2
    have HSK := hid (sorted_Keys hI4.map hlen hI.nd hsz)
    have HMK := hid (maps_Keys (some r) W4)
    have j1 := hI4.blk.cell 1 _ rfl
    have jl := hI4.blk.lt
    have HI4 := hid hI4
    have HR4 := hid hR4
    have HB34 := hid hb34
    have HSZ4 := hid hsz4
    have HES := hid hlen
    have HKS := hid hsz
    clear hb3 h0 h1 hI hb34 hk4 hR4 hI4 hlen hsz hsz4 HC
    go_upto_region 5 with fail
    rw [← HW4.out, ← HB0.out]
    clear k3 kl
    go_wp2_with fail
    refine HMK.out.mono ?_
    rintro e w5 ⟨rfl, rfl⟩
    go_wp2_with fail
    refine HSK.out.mono ?_
    rintro e w6 ⟨v6, ss, rfl, hperm, hrow, hb6⟩
    obtain ⟨S, HSS⟩ : ∃ S : List (List UInt8), Hid (S = ss.mergeSort fun x y => decide (x ≤ y)) := ⟨_, rfl⟩
    have hS6 : StrsOwn w6 (W4.heap.size + 1) v6 S := by
      unfold StrsOwn
      rw [HSS.out, List.length_mergeSort]
      exact hrow
    have hb46 : Below W4.heap.size W4 w6 := ((Below.refl W4.heap.size W4).alloc (Nat.le_refl _) (.cells #[.map (some r)] 51)).trans (hb6.mono (by omega))
    have HKO := hid (keys_of hperm HI4.out.nd HI4.out.keys)
    rw [← HSS.out] at HKO
    obtain ⟨va, vc, rfl⟩ := hS6.form
    obtain ⟨n6, HN6⟩ : ∃ n, Hid (n = S.length) := ⟨_, rfl⟩
    rw [← HN6.out] at hS6 ⊢
    obtain ⟨R, HR⟩ : ∃ R, Hid (R = rowsS T (S.map mkB) n) := ⟨_, rfl⟩
    have HRL : Hid (R.length = n6 + 1) := by rw [Hid, HR.out]; unfold rowsS; rw [List.length_cons, List.length_map, List.length_map, HN6.out]
    have hn6 : n6 ≤ 1073741824 := by
      have h := hperm.length_eq
      rw [List.length_map] at h
      have := HES.out
      rw [HN6.out, HSS.out, List.length_mergeSort]
      omega
    have HB36 := hid (HB34.out.trans (hb46.mono HB34.out.size))
    have hsB := hS6.2
    have HJ0 : Hid (RowsOwn srP 32 4 0 b0 w6 (.slice (some ⟨b0, 0, none⟩) (0 + 1) 1) (R.take (0 + 1)) ∧ Below w3.heap.size w3 w6 ∧ StrsOwn w6 (W4.heap.size + 1) (.slice va n6 vc) S ∧ ∀ b, (Value.slice va n6 vc).ownBlock = some b → (Value.slice (some ⟨b0, 0, none⟩) (0 + 1) 1).ownBlock ≠ some b) := by
      refine ⟨?_, HB36.out, hS6, fun b hb e => ?_⟩
      · have h := HR4.out.below hb46
        rw [HR.out, HT1.out] at *
        exact h
      · have h1 := (World.ownsRow.lt hS6 b hb).1
        simp only [Value.ownBlock, Option.some.injEq] at e
        have := HSZ4.out
        omega
    have HTZ : Hid (∀ t ∈ S, t.length ≤ 1073741824) := fun t ht => by
      obtain ⟨e, he, h2⟩ := (HKO.out.mem (mkB t)).1 (List.mem_map.2 ⟨t, ht, rfl⟩)
      have := HTP.out (by first | rfl | trivial) e he
      rw [h2] at this
      simpa [mkB, ByteArray.size] using this
    have HFIN : Hid (∀ (wr : World) (v : Value), RowsOwn srP 32 4 0 b0 wr v R → Below w3.heap.size w3 wr → Q (.returned (.tuple #[v, .int .u8 0])) wr) := fun wr v hv hb => by
      rw [HQ.out]
      refine ⟨HB3.out.trans (hb.mono HB3.out.size), fun h => absurd rfl h, fun _ => ⟨v, ss, b0, rfl, ?_, by rw [HB0.out]; exact HB3.out.size, ?_⟩⟩
      · rw [← HT.out, ← HSS.out]; exact HKO.out
      · rw [← HT.out, ← HSS.out, ← HN.out, ← HR.out]; exact hv
    clear hrow hS6 hb46 hb6 hperm hsB HSK HMK j1 jl HR4
    go_wp2_with fail
    go_loopw [12, 43] (fun v12 v43 wr => ∃ (k : Nat) (oa : Option Addr) (oc : Nat), v12 = .slice oa (k + 1) oc ∧ v43 = .int .i64 (k : Int) ∧ k ≤ n6 ∧ Hid (RowsOwn srP 32 4 0 b0 wr (.slice oa (k + 1) oc) (R.take (k + 1)) ∧ Below w3.heap.size w3 wr ∧ StrsOwn wr (W4.heap.size + 1) (.slice va n6 vc) S ∧ ∀ b, (Value.slice va n6 vc).ownBlock = some b → (Value.slice oa (k + 1) oc).ownBlock ≠ some b)) (fun _ v43 _ => n6 - (intOf v43).toNat)
    case atStart => exact ⟨0, _, _, rfl, rfl, by omega, HJ0.out⟩
    case round =>
      obtain ⟨k, oa, oc, rfl, rfl, hk, HJ⟩ := hrel
      by_cases hlt : k < n6
      · obtain ⟨hj1, hj2, hj3, hj4⟩ := HJ.out
        obtain ⟨t, ht⟩ : ∃ t, S[k]? = some t := ⟨_, List.getElem?_eq_getElem (by rw [← HN6.out]; exact hlt)⟩
        obtain ⟨-, a', cap', he, -, hat⟩ := (hj3.strs (by rw [← HN6.out]; omega) fun t ht => Nat.le_trans (HTZ.out t ht) (by omega)).open
        obtain ⟨ha, -, -⟩ := Value.slice.inj he
        subst ha
        obtain ⟨-, sb, so, rfl, c0⟩ := hat k t ht
        obtain ⟨P, HP⟩ : ∃ P, Hid (P = mkB t) := ⟨_, rfl⟩
        have c1 : wr.cell? ⟨sb, so + k, none⟩ = some (.string P) := by rw [HP.out]; exact c0
        have hIr := HI3.out.later hj2
        have hmem : P ∈ S.map mkB := by rw [HP.out]; exact List.mem_map.2 ⟨t, List.mem_of_getElem? ht, rfl⟩
        obtain ⟨v, hg⟩ : ∃ v, getOf P es = some v := by
          have h := (HI3.out.keys P).2 (.inl ((HKO.out.mem P).1 hmem))
          cases hg : getOf P es with
          | none => rw [hg] at h; cases h
          | some v => exact ⟨v, rfl⟩
        obtain ⟨rb, rfl, -, -, -, hRow⟩ := hIr.rows P _ hg
        have hlk := row_lookup hIr.map P
        rw [hg, Option.getD_some] at hlk
        obtain ⟨C1, HC1⟩ : ∃ n, Hid (n = cntE T P) := ⟨_, rfl⟩
        obtain ⟨Y1, HY1⟩ : ∃ n, Hid (n = bytE T P) := ⟨_, rfl⟩
        obtain ⟨V1, HV1⟩ : ∃ n, Hid (n = valE T P) := ⟨_, rfl⟩
        unfold rowC at hRow
        rw [← HC1.out, ← HY1.out, ← HV1.out] at hRow
        have hRk : R[k + 1]? = some (⟨P, C1, Y1, V1⟩ : SR) := by
          rw [HR.out]
          unfold rowsS
          rw [List.getElem?_cons_succ, List.getElem?_map, List.getElem?_map, ht, HC1.out, HY1.out, HV1.out, HP.out]
          rfl
        have hRT : R.take (k + 1 + 1) = R.take (k + 1) ++ [(⟨P, C1, Y1, V1⟩ : SR)] := by
          rw [List.take_add_one, hRk]; rfl
        have hbs : b0 ≤ wr.heap.size := by rw [HB0.out]; exact hj2.size
        obtain ⟨a9, c9, w9, hr9, hO9, hb9, hg9, hat9⟩ := hj1.step' (by decide) hbs (by rw [List.length_take, HRL.out]; omega) 27 _ 40 Try.underlying27 info_srow rfl #[.string P, .int .i64 (C1 : Int), .int .i64 (Y1 : Int), .int .i64 (V1 : Int)] rfl (by intro u hu; simp at hu; rcases hu with rfl | rfl | rfl | rfl <;> rfl) (⟨P, C1, Y1, V1⟩ : SR) (fun _ _ => rfl) (by omega) (by decide)
        rw [← hRT] at hO9
        have HNEW : Hid (RowsOwn srP 32 4 0 b0 w9 (.slice a9 (k + 1 + 1) c9) (R.take (k + 1 + 1)) ∧ Below w3.heap.size w3 w9 ∧ StrsOwn w9 (W4.heap.size + 1) (.slice (some ⟨sb, so, none⟩) n6 vc) S ∧ ∀ b, (Value.slice (some ⟨sb, so, none⟩) n6 vc).ownBlock = some b → (Value.slice a9 (k + 1 + 1) c9).ownBlock ≠ some b) := by
          refine ⟨hO9, hj2.trans (by rw [HB0.out] at hb9; exact hb9), ?_, fun b hb e => ?_⟩
          · exact owned_keep hj3 fun b hb => (hg9.block b (by have := (World.ownsRow.lt hj3 b hb).2; simp; omega) fun e => hj4 b hb e.symm).trans (Below.heap_alloc wr _ b (World.ownsRow.lt hj3 b hb).2)
          · rcases hat9 with h | h
            · rw [h] at e; exact hj4 b hb e
            · rw [h] at e
              injection e with e
              have := (World.ownsRow.lt hj3 b hb).2
              simp at e
              omega
        have HR9 := hid hr9
        have q1 := hIr.blk.cell 1 _ rfl
        have ql := hIr.blk.lt
        have r0 := hRow.cell 0 _ rfl
        have r1 := hRow.cell 1 _ rfl
        have r2 := hRow.cell 2 _ rfl
        have r3 := hRow.cell 3 _ rfl
        have rl := hRow.lt
        have hix := index_run1 Try.underlying54 size_str (rfl : some (⟨sb, so, none⟩ : Addr) = some ⟨sb, so, none⟩) k hlt (cap := vc)
        have hsl := World.block_lt_of_cell? wr _ c1
        clear hj1 hj2 hj3 hj4 ht he hat c0 hIr hmem hg hRow hRk hRT hr9 hO9 hb9 hg9 hat9 HJ
        go_wp2_with (at_builtin; refine wpList_append_eq rfl _ _ _ rfl _ _ rfl rfl HR9.out ?_)
        go_roundw
        case rel => exact ⟨k + 1, _, _, rfl, by go_num, hlt, HNEW.out⟩
        case measure => simp [intOf]; omega
      · obtain rfl : k = n6 := by omega
        have HE : Hid (Q (.returned (.tuple #[.slice oa (k + 1) oc, .int .u8 0])) wr) := by
          have h := HJ.out.1
          rw [List.take_of_length_le (by rw [HRL.out]; exact Nat.le_refl _)] at h
          exact HFIN.out wr _ h HJ.out.2.1
        go_wp2_with fail
        exact HE.out
  · have he := h0 hz
    subst he
    have hzc : ((z : Int) == 0) = false := by simpa using hz
    have hzn : ((z : Int) != 0) = true := by simpa using hz
    have HE : Hid (Q (.returned (.tuple #[.slice none 0 0, .int .u8 (z : Nat)])) w3) := by
      rw [HQ.out]
      exact ⟨hb3, fun _ => rfl, fun h => absurd h hz⟩
    clear hz h0 h1
    go_wp2_with fail
    exact HE.out
end Go.Proofs.Ytphkmpnahnakaaa
namespace Go.Proofs.Ytphkmpnahnakaaa
open Go.RowKit
def rowK (a : ByteArray × Int × Int × Int) : Value := .agg #[.string a.1, .int .i64 a.2.1, .int .i64 a.2.2.1, .int .i64 a.2.2.2]
set_option maxRecDepth 100000 in
theorem row_equal (w : World) (a b : ByteArray × Int × Int × Int) : (Op.equal 32 (rowK a) (rowK b)).run Try.prog w = .ok (decide (a = b)) w := by
  obtain ⟨a1, a2, a3, a4⟩ := a
  obtain ⟨b1, b2, b3, b4⟩ := b
  have hp : Try.prog.stoodInHeld 32 = false := by kernel_rfl
  simp only [rowK]
  simp [Op.equal, Op.maxDepth, go_sem, hp, toList_inj]
  by_cases h1 : a1 = b1 <;> by_cases h2 : a2 = b2 <;> by_cases h3 : a3 = b3 <;> by_cases h4 : a4 = b4 <;> simp [h1, h2, h3, h4]
theorem row_eql (p : ByteArray) (x y z : Int) (w : World) : (binOp .eql 32 (.agg #[.string p, .int .i64 x, .int .i64 y, .int .i64 z]) (.agg #[.string p, .int .i64 x, .int .i64 y, .int .i64 z])).run Try.prog w = .ok (.bool true) w := by
  have h := row_equal w (p, x, y, z) (p, x, y, z)
  simp only [rowK, decide_true] at h
  simp [binOp, h, Result.andThen]
theorem row_neq (p : ByteArray) (x y z : Int) (w : World) : (binOp .neq 32 (.agg #[.string p, .int .i64 x, .int .i64 y, .int .i64 z]) (.agg #[.string p, .int .i64 x, .int .i64 y, .int .i64 z])).run Try.prog w = .ok (.bool false) w := by
  have h := row_equal w (p, x, y, z) (p, x, y, z)
  simp only [rowK, decide_true] at h
  simp [binOp, h, Result.andThen]
end Go.Proofs.Ytphkmpnahnakaaa
namespace Go.Proofs.Ytphkmpnahnakaaa
open Go.RowKit
/-! Literals: a block as a slice. -/
theorem fields_blk {w : World} {g : Nat} {fs : List Fld} {T : TypeId} (h : Blk w g (fs.flatMap Fld.cells) T) (n : Nat) (hl : n = fs.length) (hn : n ≤ 140737488355328) (hok : ∀ f ∈ fs, f.Ok) : FieldsAt w (.slice (some ⟨g, 0, none⟩) n n) fs := by
  subst hl
  refine ⟨seg_blk h 6 _ ?_ hn, hok⟩
  clear h hok hn
  induction fs with
  | nil => rfl
  | cons f r ih => rw [List.flatMap_cons, List.length_append, ih, List.length_cons, Nat.succ_mul]; show 6 + _ = _; omega
theorem schema_one {w : World} {g : Nat} {name : ByteArray} {fs : List Fld} {fv : Value} {T : TypeId} (h : Blk w g [.string name, fv] T) (hn : name.size ≤ 140737488355328) (hf : FieldsAt w fv fs) : SchemaAt w (.slice (some ⟨g, 0, none⟩) 1 1) [⟨name, fs⟩] := by
  refine ⟨[fv], rfl, seg_blk h 2 1 rfl (by omega), by simpa using hn, fun i hi => ?_⟩
  have : i = 0 := by simp at hi; omega
  subst this
  exact hf
end Go.Proofs.Ytphkmpnahnakaaa
