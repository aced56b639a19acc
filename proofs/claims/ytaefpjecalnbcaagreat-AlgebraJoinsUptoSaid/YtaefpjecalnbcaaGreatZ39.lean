/- tree.Copy: the copy's rows lie in new blocks, each of its row's type (TCopyQOk). Meanings of at most 2^40 things. algebra.plain: unknown records fall away in place (PlainOk). No condition but that the meaning lies in blocks of known types. -/
import Derived.Test.YtaefpjecalnbcaaGreatZ16
import Derived.Test.YtaefpjecalnbcaaGreatZ38
namespace Go.Proofs.YtaefpjecalnbcaaGreat
open Go.RowKit Go.Shelf
def SubQP (lo d : Nat) (w : World) (r : List Value) (x : M d) : Prop := MsgQ UAny lo w.heap.size d w (.agg r.toArray) x
def ValQP (lo d : Nat) (w : World) (r : List Value) (x : Val (M d)) : Prop := ∃ wv tv sv, r = [.int .i64 x.num, wv, tv, sv] ∧ ValQ (fun _ w u z => MsgQ UAny lo w.heap.size d w u z) lo w.heap.size w wv tv sv x
def TCopyQOk (w0 : World) (lo d : Nat) : Prop := ∀ (w : World) (v : Value) (x : M d), lo ≤ w.heap.size → Below w0.heap.size w0 w → MsgAt d w0 v x → mwt d x ≤ 1099511627776 →
  Calls Tryz.prog 37 #[v] w fun e w' => ∃ v', e = .returned v' ∧ Below w.heap.size w w' ∧ Apart 0 w.heap.size w' fun w2 => MsgQ UAny lo w2.heap.size d w2 v' x
theorem subs_qp {lo d base : Nat} {w w' : World} {v : Value} {l : List (M d)} (h : RowsOwn (SubQP lo d) 27 2 0 base w v l) (hl : l.length ≤ 140737488355328) (hlb : lo ≤ base) (hw : ∀ b, b < w.heap.size → base ≤ b → w'.heap[b]? = w.heap[b]?) :
    SubsQ (fun _ w u z => MsgQ UAny lo w.heap.size d w u z) lo w'.heap.size w' v l :=
  subs_q (P := fun _ w u z => MsgQ UAny lo w.heap.size d w u z) h hl hlb hw
theorem vals_qp {lo d base : Nat} {w w' : World} {v : Value} {l : List (Val (M d))} (h : RowsOwn (ValQP lo d) 67 4 0 base w v l) (hl : l.length ≤ 140737488355328) (hlb : lo ≤ base) (hw : ∀ b, b < w.heap.size → base ≤ b → w'.heap[b]? = w.heap[b]?) :
    ValsQ (fun _ w wv tv sv y => ValQ (fun _ w u z => MsgQ UAny lo w'.heap.size d w u z) lo w'.heap.size w wv tv sv y) lo w'.heap.size w' v l :=
  (vals_q (P := fun w wv tv sv x => ValQ (fun _ w u z => MsgQ UAny lo w.heap.size d w u z) lo w.heap.size w wv tv sv x) h hl hlb hw).agree (fun _ _ _ => rfl) fun _ _ _ _ _ _ hy =>
    ⟨hy.1, hy.2.1, hy.2.2.1, hy.2.2.2.agree (fun _ _ _ => rfl) fun _ _ _ _ _ h => h⟩
theorem own_hi {lo k n : Nat} {T : TypeId} {w : World} {v : Value} {xs : List Value} (h : w.ownsRow lo T k v n xs) : ∀ b, v.ownBlock = some b → b < w.heap.size := by
  intro b hb
  rcases h.2 with ⟨rfl, -⟩ | ⟨g, cap, cur, rfl, -, hg, -⟩
  · cases hb
  · cases hb
    exact (Array.getElem?_eq_some_iff.1 hg).1
theorem own_lo {lo lo' k n : Nat} {T : TypeId} {w : World} {v : Value} {xs : List Value} (h : w.ownsRow lo' T k v n xs) (hl : lo ≤ lo') : w.ownsRow lo T k v n xs := by
  refine ⟨h.1, ?_⟩
  rcases h.2 with h2 | ⟨g, cap, cur, hv, hb, hr⟩
  · exact .inl h2
  · exact .inr ⟨g, cap, cur, hv, by omega, hr⟩
theorem words_keptq {w : World} {lo lo' n : Nat} {a : Option Addr} {c : Nat} {l : List Nat} (h : WordsOwn w lo' (.slice a n c) l) (hll : lo ≤ lo') (hl : l.length ≤ 1099511627776) (h64 : ∀ x ∈ l, x < 2 ^ 64) : Kept2 0 lo' w.heap.size w fun w2 => WordsQ lo w2.heap.size w2 (.slice a n c) l :=
  fun _ hw' =>
    have h2 := row_keep h fun b _ hb he => hw' b (.inr ⟨hb, (Array.getElem?_eq_some_iff.1 he).1⟩)
    ⟨own_lo h2 hll, own_hi h2, hl, h64⟩
theorem strs_keptq {w : World} {lo lo' n : Nat} {a : Option Addr} {c : Nat} {l : List (List UInt8)} (h : StrsOwn w lo' (.slice a n c) l) (hll : lo ≤ lo') (hl : l.length ≤ 1099511627776) (h64 : ∀ x ∈ l, x.length ≤ 140737488355328) : Kept2 0 lo' w.heap.size w fun w2 => StrsQ lo w2.heap.size w2 (.slice a n c) l :=
  fun _ hw' =>
    have h2 := row_keep h fun b _ hb he => hw' b (.inr ⟨hb, (Array.getElem?_eq_some_iff.1 he).1⟩)
    ⟨own_lo h2 hll, own_hi h2, hl, h64⟩
theorem MsgQ.form {lo hi d : Nat} {w : World} {v : Value} {x : M d} (h : MsgQ UAny lo hi d w v x) : ∃ a n c b m k, v = .agg #[.slice a n c, .slice b m k] := by
  match d, x, h with
  | 0, _, h => exact h.elim
  | d + 1, x, h =>
    obtain ⟨vv, uv, rfl, ⟨b, m, k, rfl⟩, hv⟩ := h
    rcases hv.2 with ⟨rfl, -⟩ | ⟨g, cap, cur, rfl, -⟩
    · exact ⟨_, _, _, _, _, _, rfl⟩
    · exact ⟨_, _, _, _, _, _, rfl⟩
set_option maxRecDepth 100000 in
set_option maxHeartbeats 16000000 in
theorem tree_CopyQ_step {w0 : World} (lo d : Nat) (hrec : TCopyQOk w0 lo d) : TCopyQOk w0 lo (d + 1) := by
  intro w v x hlo hw hx hwt
  have HLO := hid hlo
  have HWT := hid hwt
  have HRE := hid hrec
  have hul := unk_len x hwt
  obtain ⟨vv, uv, rfl, hV, hU⟩ := hx
  obtain ⟨-, va, vc, rfl, -, hva⟩ := hV.open
  obtain ⟨-, ua, uc, huv, -, -⟩ := hU.open
  obtain ⟨un, HUN⟩ : ∃ n, Hid (n = (M.unk x).length) := ⟨_, rfl⟩
  obtain ⟨vn, HVN⟩ : ∃ n, Hid (n = (M.vals x).length) := ⟨_, rfl⟩
  rw [← HUN.out] at huv
  subst huv
  rw [← HVN.out] at hV ⊢
  have hvn : vn ≤ 1099511627776 := by rw [HVN.out]; exact hul.2
  have hun : un ≤ 1099511627776 := by rw [HUN.out]; exact hul.1
  obtain ⟨Q, HQ⟩ : ∃ Q : Ending → World → Prop, Hid (Q = fun e w' => ∃ v', e = .returned v' ∧ Below w.heap.size w w' ∧ Apart 0 w.heap.size w' fun w2 => MsgQ UAny lo w2.heap.size (d + 1) w2 v' x) := ⟨_, rfl⟩
  rw [← HQ.out]
  obtain ⟨X, HX⟩ : ∃ X, Hid (X = w.heap.size) := ⟨_, rfl⟩
  have HHW := hid hw
  have HVA := hid hva
  obtain ⟨W0, HW0⟩ : ∃ W, Hid (W = (w.alloc (.cells #[.slice va vn vc, .slice ua un uc] 27)).alloc (.cells #[.slice none 0 0, .slice none 0 0] 27)) := ⟨_, rfl⟩
  have hb0 : Below w.heap.size w W0 := by rw [HW0.out]; (repeat (first | with_reducible exact Below.refl _ _ | with_reducible refine Below.setCell ?_ (by first | omega | (simp; omega) | (simp; done)) _ | with_reducible refine Below.alloc ?_ (by first | omega | (simp; omega) | (simp; done)) _ | with_reducible refine below_drewN ?_ _ | with_reducible refine Below.drew ?_))
  have hk0 : Blk W0 X [.slice va vn vc, .slice ua un uc] 27 := by rw [HW0.out, HX.out]; exact (Blk.new w [.slice va vn vc, .slice ua un uc] _).alloc _
  have hk1 : Blk W0 (X + 1) [.slice none 0 0, .slice none 0 0] 27 := by rw [HW0.out, HX.out]; exact Blk.new' _ [.slice none 0 0, .slice none 0 0] _ _ (by simp)
  have hz0 : Hid (W0.heap.size = X + 2) := by rw [HW0.out, HX.out]; simp [Hid]
  have HCL := hid (clone_strs (w := W0) ((hU.keep (below_keeps hw)).keep (below_keeps hb0)) HUN.out hun)
  have HU64 := hid hU.2
  have HB0 := hid hb0
  have x1 := hk0.cell 1 _ rfl
  have xl := hk0.lt
  have HBK := hid (And.intro hk0 hk1)
  clear hw hva hV hU hrec hwt hb0 hk0 hk1 hul
  go_enter Tryz.func37, Tryz.ntmps37
  go_upto_region 1 with fail
  rw [← HW0.out, ← HX.out]
  go_upto_region 2 with (go_at_call 58; refine HCL.out.mono ?_; rintro e w3 ⟨a3, c3, rfl, hO3, hb3⟩)
  obtain ⟨W1, HW1⟩ : ∃ W1, Hid (W1 = w3.alloc (.cells #[.slice none 0 0, .slice a3 un c3] 27)) := ⟨_, rfl⟩
  obtain ⟨O, HOO⟩ : ∃ O, Hid (O = w3.heap.size) := ⟨_, rfl⟩
  rw [← HW1.out, ← HOO.out]
  have hb31 : Below w3.heap.size w3 W1 := by rw [HW1.out]; (repeat (first | with_reducible exact Below.refl _ _ | with_reducible refine Below.setCell ?_ (by first | omega | (simp; omega) | (simp; done)) _ | with_reducible refine Below.alloc ?_ (by first | omega | (simp; omega) | (simp; done)) _ | with_reducible refine below_drewN ?_ _ | with_reducible refine Below.drew ?_))
  have ho1 : Blk W1 O ([] ++ .slice none 0 0 :: [.slice a3 un c3]) 27 := by rw [HW1.out, HOO.out]; exact Blk.new w3 [.slice none 0 0, .slice a3 un c3] _
  have hOX : X + 2 ≤ O := by rw [HOO.out]; exact Nat.le_trans (Nat.le_of_eq hz0.out.symm) hb3.size
  have HX1 := hid (((HBK.out.1.below hb3).below hb31))
  have HR1 := hid (((HBK.out.2.below hb3).below hb31))
  have HB1 := hid (HB0.out.trans ((hb3.trans (hb31.mono hb3.size)).mono HB0.out.size))
  have HO1 : Hid (OutB (ValQP lo d) 67 4 0 27 O [] [.slice a3 un c3] W1 W1 (.slice none 0 0) []) := OutB.start ho1
  have HOX := hid hOX
  have HBW : Hid (∀ wr, Below O W1 wr → Below X w wr) := fun wr h => by rw [HX.out]; exact HB1.out.trans (h.mono (by have := HOX.out; have := HX.out; omega))
  have HFIN : Hid (∀ (W : World) (v' : Value), OutB (ValQP lo d) 67 4 0 27 O [] [.slice a3 un c3] W1 W v' (M.vals x) → Q (.returned (.agg #[v', .slice a3 un c3])) ((W.setCell ⟨X + 1, 0, none⟩ v').setCell ⟨X + 1, 1, none⟩ (.slice a3 un c3))) := by
    intro W v' hO
    have hB : Below X w ((W.setCell ⟨X + 1, 0, none⟩ v').setCell ⟨X + 1, 1, none⟩ (.slice a3 un c3)) := ((HBW.out W hO.below).setCell (by show X ≤ X + 1; omega) _).setCell (by show X ≤ X + 1; omega) _
    rw [HQ.out]
    refine ⟨_, rfl, by rw [← HX.out]; exact hB, fun w2 hw2 => ?_⟩
    rw [← HX.out] at hw2
    have hOl := hO.lt
    have hag : ∀ b, b < W.heap.size → X + 2 ≤ b → w2.heap[b]? = W.heap[b]? := by
      intro b hlt hc
      have hne : b ≠ X + 1 := by omega
      refine (hw2 b (by simpa using hlt) (.inr (by omega))).trans ?_
      rw [Below.heap_setCell _ _ _ b hne, Below.heap_setCell _ _ _ b hne]
    have hOX := HOX.out
    exact ⟨v', .slice a3 un c3, rfl, ⟨_, _, _, rfl⟩, vals_qp hO.rows (by rw [← HVN.out]; omega) (by have := HLO.out; have := HX.out; omega) (fun b h1 h2 => hag b h1 (by omega))⟩
  have x0 := HX1.out.cell 0 _ rfl
  have xl := HX1.out.lt
  clear hb3 hb31 ho1 hOX hO3 x1
  go_wp2_with fail
  go_loopw [16] (fun v4 wr => ∃ (i : Nat) (oa : Option Addr) (oc : Nat), v4 = .int .i64 (i : Int) ∧ i ≤ vn ∧ Hid (OutB (ValQP lo d) 67 4 0 27 O [] [.slice a3 un c3] W1 wr (.slice oa i oc) ((M.vals x).take i))) (fun v4 _ => vn - (intOf v4).toNat)
  case atStart => exact ⟨0, none, 0, rfl, by omega, HO1.out⟩
  case round =>
    obtain ⟨i, oa, oc, rfl, hi, HJ⟩ := hrel
    clear x0 xl
    by_cases hlt : i < vn
    · obtain ⟨v, hv⟩ : ∃ v, (M.vals x)[i]? = some v := ⟨_, List.getElem?_eq_getElem (by rw [← HVN.out]; exact hlt)⟩
      have HBW0 := hid (HBW.out wr HJ.out.below)
      have HB0 := hid (HHW.out.trans ((HBW0.out.mono (Nat.le_of_eq HX.out.symm)).mono HHW.out.size))
      obtain ⟨b, o', v1, v2, v3, ha, g0, g1, g2, g3, hM⟩ := HVA.out i v hv
      obtain ⟨wv, tv, sv, hform, hnum, hWo, hTe, hSu⟩ := hM
      obtain ⟨-, a1, q1, rfl, -, -⟩ := hWo.open
      obtain ⟨-, a2, q2, rfl, -, -⟩ := hTe.open
      obtain ⟨hsl, a4, q4, rfl, -, hsa⟩ := hSu.open
      obtain ⟨rfl, rfl, rfl⟩ : v1 = .slice a1 v.words.length q1 ∧ v2 = .slice a2 v.texts.length q2 ∧ v3 = .slice a4 v.subs.length q4 := by cases hform; exact ⟨rfl, rfl, rfl⟩
      clear hform
      obtain ⟨num, HNUM⟩ : ∃ n, Hid (n = v.num) := ⟨_, rfl⟩
      obtain ⟨n1, HN1⟩ : ∃ n, Hid (n = v.words.length) := ⟨_, rfl⟩
      obtain ⟨n2, HN2⟩ : ∃ n, Hid (n = v.texts.length) := ⟨_, rfl⟩
      obtain ⟨n3, HN3⟩ : ∃ n, Hid (n = v.subs.length) := ⟨_, rfl⟩
      rw [← HNUM.out] at g0 hnum
      rw [← HN1.out] at g1 hWo
      rw [← HN2.out] at g2 hTe
      rw [← HN3.out] at g3 hSu
      have hkr := below_keeps HB0.out
      replace g0 := hkr _ _ g0
      replace g1 := hkr _ _ g1
      replace g2 := hkr _ _ g2
      replace g3 := hkr _ _ g3
      have hix := index_run Tryz.underlying24 size_val ha i hlt (cap := vc)
      have hbl := World.block_lt_of_cell? wr _ g0
      have hX1 : Blk wr X [.slice va vn vc, .slice ua un uc] 27 := (HJ.out.below.block X (by have := HOX.out; omega)).trans HX1.out
      have x0 := hX1.cell 0 _ rfl
      have xl := hX1.lt
      have HVW : Hid (vwt (mwt d) v ≤ 1099511627776) := by
        have h1 := mem_sum_le (vwt (mwt d)) (M.vals x) v (List.mem_of_getElem? hv)
        have h2 := HWT.out
        have e : mwt (d + 1) x = 1 + twt (M.unk x) + ((M.vals x).map (vwt (mwt d))).sum := rfl
        show _ ≤ _
        omega
      have HTK : Hid ((M.vals x).take (i + 1) = (M.vals x).take i ++ [v]) := by rw [Hid, List.take_add_one, hv]; rfl
      have HLEN : Hid (((M.vals x).take i).length = i) := by rw [Hid, List.length_take, ← HVN.out]; omega
      have htl : ∀ l : List (List UInt8), l.length ≤ twt l := fun l => by
        induction l with
        | nil => simp
        | cons t l ih => unfold twt at *; simp; omega
      have hn123 : n1 ≤ 1099511627776 ∧ n2 ≤ 1099511627776 ∧ n3 ≤ 1099511627776 := by
        have h1 := sub_count v.subs d rfl
        have h2 := HVW.out
        have h3 := htl v.texts
        have e : vwt (mwt d) v = 1 + v.words.length + twt v.texts + (v.subs.map (mwt d)).sum := rfl
        rw [HN1.out, HN2.out, HN3.out]; omega
      obtain ⟨hn1, hn2, hn3⟩ := hn123
      obtain ⟨B, HBB⟩ : ∃ B, Hid (B = wr.heap.size) := ⟨_, rfl⟩
      obtain ⟨W6, HW6⟩ : ∃ W6, Hid (W6 = wr.alloc (.cells #[.int .i64 num, .slice a1 n1 q1, .slice a2 n2 q2, .slice a4 n3 q4] 67)) := ⟨_, rfl⟩
      have hb6 : Below wr.heap.size wr W6 := by rw [HW6.out]; exact (Below.refl _ _).alloc (Nat.le_refl _) _
      have hz6 : Hid (W6.heap.size = B + 1) := by rw [HW6.out, HBB.out]; simp [Hid]
      have hv6 : Blk W6 B [.int .i64 num, .slice a1 n1 q1, .slice a2 n2 q2, .slice a4 n3 q4] 67 := by rw [HW6.out, HBB.out]; exact Blk.new wr [.int .i64 num, .slice a1 n1 q1, .slice a2 n2 q2, .slice a4 n3 q4] _
      have HV6 := hid hv6
      have HB6 := hid hb6
      have HB06 := hid (HB0.out.trans (hb6.mono HB0.out.size))
      have HLW : Hid (∀ n, W6.heap.size ≤ n → lo ≤ n) := fun n hn => by have h1 := HLO.out; have h2 := HX.out; have h3 := HBW0.out.size; have h4 := hb6.size; have h5 := HHW.out.size; omega
      have HCW : Hid (∀ W, Below W6.heap.size W6 W → Calls Tryz.prog 59 #[.slice a1 n1 q1] W fun e w' => ∃ a' c', e = .returned (.slice a' n1 c') ∧ WordsOwn w' W.heap.size (.slice a' n1 c') v.words ∧ Below W.heap.size W w') := fun W hW =>
        clone_words (hWo.keep (below_keeps (HB06.out.trans (hW.mono HB06.out.size)))) HN1.out hn1
      have HCT : Hid (∀ W, Below W6.heap.size W6 W → Calls Tryz.prog 58 #[.slice a2 n2 q2] W fun e w' => ∃ a' c', e = .returned (.slice a' n2 c') ∧ StrsOwn w' W.heap.size (.slice a' n2 c') v.texts ∧ Below W.heap.size W w') := fun W hW =>
        clone_strs (hTe.keep (below_keeps (HB06.out.trans (hW.mono HB06.out.size)))) HN2.out hn2
      have HWTS := hid (And.intro hnum (And.intro hWo.2 hTe.2))
      have HSA := hid hsa
      have HVC : Hid (W6.cell? ⟨B, 0, none⟩ = some (.int .i64 num) ∧ W6.cell? ⟨B, 1, none⟩ = some (.slice a1 n1 q1) ∧ W6.cell? ⟨B, 2, none⟩ = some (.slice a2 n2 q2) ∧ W6.cell? ⟨B, 3, none⟩ = some (.slice a4 n3 q4)) := ⟨hv6.cell 0 _ rfl, hv6.cell 1 _ rfl, hv6.cell 2 _ rfl, hv6.cell 3 _ rfl⟩
      clear hv hkr hb6 hv6 ha hnum hWo hTe hSu hsl hsa htl
      go_upto_region 5 with fail
      rw [← HW6.out, ← HBB.out]
      clear g0 g1 g2 g3 hix hbl x0 xl hX1
      refine wp_region_float1 (fun w' => Below W6.heap.size W6 w' ∧ w'.cell? ⟨B, 0, none⟩ = some (.int .i64 num) ∧ w'.cell? ⟨B, 1, none⟩ = some (.slice a1 n1 q1) ∧ w'.cell? ⟨B, 2, none⟩ = some (.slice a2 n2 q2) ∧ w'.cell? ⟨B, 3, none⟩ = some (.slice a4 n3 q4)) 10 ⟨9, 6, [.int .i64 0, .slice none 0 0, .slice none 0 0, .slice none 0 0], 67⟩ [(0, 0), (1, 0), (2, 0), (3, 0), (5, 0), (6, 0), (4, 1), (7, 1), (8, 0)] [(10, 2, 0)] (by kernel_rfl) rfl rfl (by kernel_rfl) (by kernel_rfl) (fun _ _ dst _ _ h => by cases dst <;> exact h) ⟨_, rfl, rfl, rfl, fun a w => by kernel_rfl⟩ (fun w w' h hb => ⟨h.1.trans (hb.mono h.1.size), ⟨below_keeps hb _ _ h.2.1, below_keeps hb _ _ h.2.2.1, below_keeps hb _ _ h.2.2.2.1, below_keeps hb _ _ h.2.2.2.2⟩⟩) W6.heap.size (fun w h => h.1.size) ⟨(Below.refl _ _).drew, HVC.out⟩ (fun OPS _ => ?_)
      simp only [List.map_cons, List.map_nil, List.filterMap_cons, List.filterMap_nil, List.getElem?_cons_succ, List.getElem?_cons_zero]
      refine seqF1_q (v := ?v0) ?hy0 ?hr0
      case hy0 => (intro u w hw; unfold actF1; simp only [Act.put, List.setIfInBounds_toArray, List.set_cons_zero, List.set_cons_succ]; go_simp; all_goals rfl)
      simp only [Act.put, List.setIfInBounds_toArray, List.set_cons_zero, List.set_cons_succ]
      refine seqF1_q (v := ?v1) ?hy1 ?hr1
      case hy1 => (intro u w hw; unfold actF1; simp only [Act.put, List.setIfInBounds_toArray, List.set_cons_zero, List.set_cons_succ]; go_simp; all_goals rfl)
      simp only [Act.put, List.setIfInBounds_toArray, List.set_cons_zero, List.set_cons_succ]
      refine seqF1_q (v := ?v2) ?hy2 ?hr2
      case hy2 => (intro u w hw; unfold actF1; simp only [Act.put, List.setIfInBounds_toArray, List.set_cons_zero, List.set_cons_succ]; go_simp; all_goals rfl)
      simp only [Act.put, List.setIfInBounds_toArray, List.set_cons_zero, List.set_cons_succ]
      refine seqF1_q (v := ?v3) ?hy3 ?hr3
      case hy3 => (intro u w hw; unfold actF1; simp only [Act.put, List.setIfInBounds_toArray, List.set_cons_zero, List.set_cons_succ]; go_simp; all_goals rfl)
      simp only [Act.put, List.setIfInBounds_toArray, List.set_cons_zero, List.set_cons_succ]
      refine seqF1_q (v := ?v4) ?hy4 ?hr4
      case hy4 => (intro u w hw; unfold actF1; simp only [Act.put, List.setIfInBounds_toArray, List.set_cons_zero, List.set_cons_succ]; go_simp; all_goals rfl)
      simp only [Act.put, List.setIfInBounds_toArray, List.set_cons_zero, List.set_cons_succ]
      refine seqF1_q (v := ?v5) ?hy5 ?hr5
      case hy5 => (intro u w hw; unfold actF1; simp only [Act.put, List.setIfInBounds_toArray, List.set_cons_zero, List.set_cons_succ]; go_simp; all_goals rfl)
      simp only [Act.put, List.setIfInBounds_toArray, List.set_cons_zero, List.set_cons_succ]
      intro u w7 hV7 K HKK
      have HV7 := hid hV7
      clear hV7
      unfold actF1
      simp only [Act.put, List.setIfInBounds_toArray, List.set_cons_zero, List.set_cons_succ]
      go_wp2_with fail
      refine (HCW.out w7 HV7.out.1).mono ?_
      rintro e w8 ⟨a5, q5, rfl, hO8, hb8⟩
      go_wp2_with fail
      refine HKK.out (.slice a5 n1 q5) w8 (fun W => (Below W6.heap.size W6 W ∧ W.cell? ⟨B, 0, none⟩ = some (.int .i64 num) ∧ W.cell? ⟨B, 1, none⟩ = some (.slice a1 n1 q1) ∧ W.cell? ⟨B, 2, none⟩ = some (.slice a2 n2 q2) ∧ W.cell? ⟨B, 3, none⟩ = some (.slice a4 n3 q4)) ∧ w8.heap.size ≤ W.heap.size ∧ Kept2 0 w7.heap.size w8.heap.size W (fun W2 => WordsQ lo W2.heap.size W2 (.slice a5 n1 q5) v.words)) (fun W W' h hb => ⟨⟨h.1.1.trans (hb.mono h.1.1.size), ⟨below_keeps hb _ _ h.1.2.1, below_keeps hb _ _ h.1.2.2.1, below_keeps hb _ _ h.1.2.2.2.1, below_keeps hb _ _ h.1.2.2.2.2⟩⟩, Nat.le_trans h.2.1 hb.size, h.2.2.below (Nat.zero_le _) h.2.1 hb⟩) (fun W h => h.1) (fun W h => h.2.1) ⟨⟨HV7.out.1.trans (hb8.mono HV7.out.1.size), ⟨below_keeps hb8 _ _ HV7.out.2.1, below_keeps hb8 _ _ HV7.out.2.2.1, below_keeps hb8 _ _ HV7.out.2.2.2.1, below_keeps hb8 _ _ HV7.out.2.2.2.2⟩⟩, Nat.le_refl _, words_keptq hO8 (HLW.out _ HV7.out.1.size) (by rw [← HN1.out]; exact hn1) HWTS.out.2.1⟩ hb8 ?_
      simp only [Act.put, List.setIfInBounds_toArray, List.set_cons_zero, List.set_cons_succ]
      have HW67 := hid HV7.out.1.size
      clear HV7 hO8 hb8 HKK u
      intro u w9 hV9 K HKK
      have HV9 := hid hV9
      clear hV9
      unfold actF1
      simp only [Act.put, List.setIfInBounds_toArray, List.set_cons_zero, List.set_cons_succ]
      go_wp2_with fail
      refine (HCT.out w9 HV9.out.1.1).mono ?_
      rintro e w10 ⟨a6, q6, rfl, hO10, hb10⟩
      go_wp2_with fail
      refine HKK.out (.slice a6 n2 q6) w10 (fun W => (Below W6.heap.size W6 W ∧ W.cell? ⟨B, 0, none⟩ = some (.int .i64 num) ∧ W.cell? ⟨B, 1, none⟩ = some (.slice a1 n1 q1) ∧ W.cell? ⟨B, 2, none⟩ = some (.slice a2 n2 q2) ∧ W.cell? ⟨B, 3, none⟩ = some (.slice a4 n3 q4)) ∧ w10.heap.size ≤ W.heap.size ∧ w8.heap.size ≤ W.heap.size ∧ Kept2 0 w7.heap.size w8.heap.size W (fun W2 => WordsQ lo W2.heap.size W2 (.slice a5 n1 q5) v.words) ∧ Kept2 0 w9.heap.size w10.heap.size W (fun W2 => StrsQ lo W2.heap.size W2 (.slice a6 n2 q6) v.texts)) (fun W W' h hb => ⟨⟨h.1.1.trans (hb.mono h.1.1.size), ⟨below_keeps hb _ _ h.1.2.1, below_keeps hb _ _ h.1.2.2.1, below_keeps hb _ _ h.1.2.2.2.1, below_keeps hb _ _ h.1.2.2.2.2⟩⟩, Nat.le_trans h.2.1 hb.size, Nat.le_trans h.2.2.1 hb.size, h.2.2.2.1.below (Nat.zero_le _) h.2.2.1 hb, h.2.2.2.2.below (Nat.zero_le _) h.2.1 hb⟩) (fun W h => ⟨h.1, h.2.2.1, h.2.2.2.1⟩) (fun W h => h.2.1) ⟨⟨HV9.out.1.1.trans (hb10.mono HV9.out.1.1.size), ⟨below_keeps hb10 _ _ HV9.out.1.2.1, below_keeps hb10 _ _ HV9.out.1.2.2.1, below_keeps hb10 _ _ HV9.out.1.2.2.2.1, below_keeps hb10 _ _ HV9.out.1.2.2.2.2⟩⟩, Nat.le_refl _, Nat.le_trans HV9.out.2.1 hb10.size, HV9.out.2.2.below (Nat.zero_le _) HV9.out.2.1 hb10, strs_keptq hO10 (HLW.out _ HV9.out.1.1.size) (by rw [← HN2.out]; exact hn2) HWTS.out.2.2⟩ hb10 ?_
      simp only [Act.put, List.setIfInBounds_toArray, List.set_cons_zero, List.set_cons_succ]
      have HW69 := hid HV9.out.1.1.size
      clear HV9 hO10 hb10 HKK u
      refine seqF1_q (v := ?v20) ?hy20 ?hr20
      case hy20 => (intro u w hw; unfold actF1; simp only [Act.put, List.setIfInBounds_toArray, List.set_cons_zero, List.set_cons_succ]; go_simp; all_goals rfl)
      simp only [Act.put, List.setIfInBounds_toArray, List.set_cons_zero, List.set_cons_succ]
      intro p w11 hV11 hP hR hk
      unfold actF1 ptrF
      simp only [Act.put, List.setIfInBounds_toArray, List.set_cons_zero, List.set_cons_succ]
      obtain ⟨Y, HY⟩ : ∃ Y, Hid (Y = (((w11.setCell ⟨p, 0, none⟩ (.int .i64 num)).setCell ⟨p, 1, none⟩ (.slice a5 n1 q5)).setCell ⟨p, 2, none⟩ (.slice a6 n2 q6)).setCell ⟨p, 3, none⟩ (.slice none 0 0)) := ⟨_, rfl⟩
      obtain ⟨hk2, hbut⟩ := set4 (a := .int .i64 num) (b := .slice a5 n1 q5) (c := .slice a6 n2 q6) (e := .slice none 0 0) hk
      rw [← HY.out] at hk2 hbut
      have hr1 := hR (w7.heap.size, w8.heap.size) (by simp)
      have hr2 := hR (w9.heap.size, w10.heap.size) (by simp)
      have HR1P := hid (And.intro hr1 hr2)
      have HKW := hid (hV11.2.2.2.1.but hbut hV11.2.2.1 hr1)
      have HKT := hid (hV11.2.2.2.2.but hbut hV11.2.1 hr2)
      have hYB : Below W6.heap.size W6 Y := hV11.1.1.trans (hbut.to_below hP hV11.1.1.size)
      have HYB := hid hYB
      have HSZ : Hid (w8.heap.size ≤ Y.heap.size ∧ w10.heap.size ≤ Y.heap.size) := ⟨Nat.le_trans hV11.2.2.1 hbut.size, Nat.le_trans hV11.2.1 hbut.size⟩
      have HPB := hid hP
      have HOC : Hid (OutC (SubQP lo d) 27 2 0 67 p [.int .i64 num, .slice a5 n1 q5, .slice a6 n2 q6] [] Y Y (.slice none 0 0) []) := OutC.start hk2
      have hYV := HV6.out.below hYB
      have y3 := hYV.cell 3 _ rfl
      have yl := hYV.lt
      have p0 := hk.cell 0 _ rfl
      have p1 := hk.cell 1 _ rfl
      have p2 := hk.cell 2 _ rfl
      have p3 := hk.cell 3 _ rfl
      have f0 := hk.free 0
      have f1 := hk.free 1
      have f2 := hk.free 2
      have f3 := hk.free 3
      have pl := hk.lt
      have hVY : (fun W => (Below W6.heap.size W6 W ∧ W.cell? ⟨B, 0, none⟩ = some (.int .i64 num) ∧ W.cell? ⟨B, 1, none⟩ = some (.slice a1 n1 q1) ∧ W.cell? ⟨B, 2, none⟩ = some (.slice a2 n2 q2) ∧ W.cell? ⟨B, 3, none⟩ = some (.slice a4 n3 q4)) ∧ w10.heap.size ≤ W.heap.size ∧ w8.heap.size ≤ W.heap.size ∧ Kept2 0 w7.heap.size w8.heap.size W (fun W2 => WordsQ lo W2.heap.size W2 (.slice a5 n1 q5) v.words) ∧ Kept2 0 w9.heap.size w10.heap.size W (fun W2 => StrsQ lo W2.heap.size W2 (.slice a6 n2 q6) v.texts)) Y :=
        ⟨⟨hYB, hYV.cell 0 _ rfl, hYV.cell 1 _ rfl, hYV.cell 2 _ rfl, hYV.cell 3 _ rfl⟩, HSZ.out.2, HSZ.out.1, HKW.out, HKT.out⟩
      have HVY := hid hVY
      clear hV11 hk hk2 hbut hP hR hr1 hr2 hYB hYV hVY
      refine seqH2 (fun K12 HK12 => ?_)
      go_wp2_with fail
      rw [← HY.out]
      refine HK12.out _ _ HVY.out ?_
      clear HK12 K12 p0 p1 p2 p3 f0 f1 f2 f3 pl
      intro _
      refine seqH_end ?_
      have HYS : Hid (B < Y.heap.size ∧ B < p) := ⟨yl, by have := HPB.out; have := hz6.out; show B < p; omega⟩
      clear HVY HCW HCT HVC
      go_wp2_with fail
      obtain ⟨w5, hw5⟩ : ∃ u, u = wr := ⟨_, rfl⟩
      rw [← hw5] at HJ HBB HB0 HBW0 HB6 HW6
      clear hw5 y3 yl
      go_loopw [32] (fun v7 wr => ∃ (k : Nat) (sa : Option Addr) (sc : Nat), v7 = .int .i64 (k : Int) ∧ k ≤ n3 ∧ Hid (OutC (SubQP lo d) 27 2 0 67 p [.int .i64 num, .slice a5 n1 q5, .slice a6 n2 q6] [] Y wr (.slice sa k sc) (v.subs.take k))) (fun v7 _ => n3 - (intOf v7).toNat)
      case atStart => exact ⟨0, none, 0, rfl, by omega, HOC.out⟩
      case round =>
        obtain ⟨k, sa, sc, rfl, hk, HI⟩ := hrel
        have hB67 : Below W6.heap.size W6 wr := HYB.out.trans (HI.out.but.to_below HPB.out HYB.out.size)
        have HB5 := hid (HB6.out.trans (hB67.mono HB6.out.size))
        have HB0r := hid (HB0.out.trans (HB5.out.mono HB0.out.size))
        have hVB : Blk wr B [.int .i64 num, .slice a1 n1 q1, .slice a2 n2 q2, .slice a4 n3 q4] 67 := HV6.out.below hB67
        have d3 := hVB.cell 3 _ rfl
        have dl := hVB.lt
        have HI3 := HI.out.cell 3 _ rfl
        have hil := HI.out.lt
        have hif := HI.out.free 3
        by_cases hlk : k < n3
        · obtain ⟨y, hy⟩ : ∃ y, v.subs[k]? = some y := ⟨_, List.getElem?_eq_getElem (by rw [← HN3.out]; exact hlk)⟩
          obtain ⟨b, o, v1, v2, ha, g0, g1, hM⟩ := HSA.out k y hy
          have HMY : Hid (mwt d y ≤ 1099511627776) := by
            have h1 := mem_sum_le (mwt d) v.subs y (List.mem_of_getElem? hy)
            have h2 := HVW.out
            have e : vwt (mwt d) v = 1 + v.words.length + twt v.texts + (v.subs.map (mwt d)).sum := rfl
            show _ ≤ _
            omega
          have HTKS : Hid (v.subs.take (k + 1) = v.subs.take k ++ [y]) := by rw [Hid, List.take_add_one, hy]; rfl
          have HSL : Hid ((v.subs.take k).length = k) := by rw [Hid, List.length_take, ← HN3.out]; omega
          have hkr := below_keeps HB0r.out
          replace g0 := hkr _ _ g0
          replace g1 := hkr _ _ g1
          obtain ⟨z1, m1, r1, z2, m2, r2, e⟩ := hM.form
          cases e
          have hix := index_run Tryz.underlying65 size_msg ha k hlk (cap := q4)
          have gl := World.block_lt_of_cell? wr _ g0
          obtain ⟨W8, HW8⟩ : ∃ W, Hid (W = wr.alloc (.cells #[.slice z1 m1 r1, .slice z2 m2 r2] 27)) := ⟨_, rfl⟩
          obtain ⟨G, HG⟩ : ∃ G, Hid (G = wr.heap.size) := ⟨_, rfl⟩
          have hb8 : Below wr.heap.size wr W8 := by rw [HW8.out]; (repeat (first | with_reducible exact Below.refl _ _ | with_reducible refine Below.setCell ?_ (by first | omega | (simp; omega) | (simp; done)) _ | with_reducible refine Below.alloc ?_ (by first | omega | (simp; omega) | (simp; done)) _ | with_reducible refine below_drewN ?_ _ | with_reducible refine Below.drew ?_))
          have hy8 : Blk W8 G [.slice z1 m1 r1, .slice z2 m2 r2] 27 := by rw [HW8.out, HG.out]; exact Blk.new wr [.slice z1 m1 r1, .slice z2 m2 r2] _
          have HC := hid (HRE.out W8.drew _ y (HLW.out _ (Nat.le_trans hB67.size hb8.size)) (HB0r.out.trans (hb8.mono HB0r.out.size)).drew hM HMY.out)
          have HI8 := hid (HI.out.later hb8)
          have hI8 := HI8.out
          have e0 : W8.drew.cell? ⟨p, 3, none⟩ = some (.slice sa k sc) := hI8.cell 3 _ rfl
          have k01 : W8.drew.cell? ⟨G, 0, none⟩ = some (.slice z1 m1 r1) := hy8.cell 0 _ rfl
          have k02 : W8.drew.cell? ⟨G, 1, none⟩ = some (.slice z2 m2 r2) := hy8.cell 1 _ rfl
          have hil := hI8.lt
          have hif := hI8.free 3
          have c0 := hI8.cell 3 _ rfl
          have c1 := hy8.cell 0 _ rfl
          have c2 := hy8.cell 1 _ rfl
          have gl := hy8.lt
          have HPG : Hid (p < Y.heap.size ∧ Y.heap.size ≤ G) := ⟨HI.out.lt3, by rw [HG.out]; exact HI.out.but.size⟩
          have hpg : p ≠ G := by have := HPG.out; omega
          clear hM hy hkr ha hb8 hVB hI8
          go_upto_region 9 with fail
          rw [← HW8.out, ← HG.out]
          clear hix g0 g1 d3 dl HI3
          go_wp2_with fail
          go_region_law (first | (go_simp; go_at_call 37; (with_reducible refine HC.out.mono ?_); rintro e w1 ⟨vm, rfl, hbm, hap⟩; obtain ⟨p1, p1n, p1c, p2, p2n, p2c, rfl⟩ := hap.here.form; have hk1 : ∀ p u, W8.drew.cell? p = some u → w1.cell? p = some u := below_keeps hbm; have e1 : w1.cell? ⟨p, 3, none⟩ = some (.slice sa k sc) := hk1 _ _ e0; have k11 := hk1 _ _ k01; have k12 := hk1 _ _ k02; obtain ⟨a9, q9, w9, hr9, hB9, ⟨e5, z3, l9⟩, hO9⟩ := HI8.out.step ((Below.refl W8.heap.size W8).drew.trans hbm) (by decide) (Nat.zero_le _) HSL.out 65 _ 48 Tryz.underlying65 info_cmsg rfl #[.slice p1 p1n p1c, .slice p2 p2n p2c] rfl (by intro u hu; simp at hu; rcases hu with rfl | rfl <;> rfl) y hap (by omega) (by decide) 3 rfl; have e4 : (w1.alloc (.cells #[.slice p1 p1n p1c, .slice p2 p2n p2c] 27)).cell? ⟨p, 3, none⟩ = some (.slice sa k sc) := below_keeps ((Below.refl w1.heap.size w1).alloc (Nat.le_refl _) _) _ _ e1; have HR9 := hid hr9; have HO9 := hid hO9; clear hr9 hO9 hk1) | (refine step_append_eq rfl (.tmp 37) (.tmp 40) _ rfl _ _ rfl rfl HR9.out ?_))
          all_goals
            go_wp2_with fail
            go_roundw
            case rel => exact ⟨k + 1, _, _, by go_num, hlk, by rw [HTKS.out]; exact HO9.out⟩
            case measure => simp [intOf]; omega
        · obtain rfl : k = n3 := by omega
          have hI := HI.out
          rw [show v.subs.take k = v.subs from by rw [HN3.out, List.take_length]] at hI
          have b0 := hI.cell 0 _ rfl
          have b1 := hI.cell 1 _ rfl
          have b2 := hI.cell 2 _ rfl
          have HII := hid hI
          have hJ := HJ.out.later HB5.out
          have hVv : Apart 0 w5.heap.size wr fun w' => ValQP lo d w' [.int .i64 num, .slice a5 n1 q5, .slice a6 n2 q6, .slice sa k sc] v := fun w' hw' => by
            have hW := HKW.out.but hI.but HSZ.out.1 HR1P.out.1
            have hT := HKT.out.but hI.but HSZ.out.2 HR1P.out.2
            have h66 := hz6.out
            have h67 := HW67.out
            have h69 := HW69.out
            have hyw := hI.but.size
            have hsz := HSZ.out
            refine ⟨_, _, _, by rw [← HNUM.out], ?_, hW w' fun b hc => hw' b (by omega) (.inr (by rw [← HBB.out]; omega)), hT w' fun b hc => hw' b (by omega) (.inr (by rw [← HBB.out]; omega)), ?_⟩
            · rw [← HNUM.out]; exact HWTS.out.1
            · exact subs_qp hI.rows (by rw [← HN3.out]; omega) (HLW.out _ HYB.out.size) fun b hb hc => hw' b hb (.inr (by rw [← HBB.out]; have := HYB.out.size; omega))
          obtain ⟨a9, c9, w9, hr9, -, -, ⟨e5, z3, l9, -⟩, hO9⟩ := HJ.out.step HB5.out (by decide) (Nat.zero_le _) HLEN.out 24 _ 80 Tryz.underlying24 info_cval rfl #[.int .i64 num, .slice a5 n1 q5, .slice a6 n2 q6, .slice sa k sc] rfl (by intro u hu; simp at hu; rcases hu with rfl | rfl | rfl | rfl <;> rfl) v hVv (by omega) (by decide) 0 rfl
          have x0 := hJ.cell 0 _ rfl
          have xl := hJ.lt
          have HR9 := hid hr9
          have HO9 : Hid (OutB (ValQP lo d) 67 4 0 27 O [] [.slice a3 un c3] W1 (w9.setCell ⟨O, 0, none⟩ (.slice a9 (i + 1) c9)) (.slice a9 (i + 1) c9) ((M.vals x).take (i + 1))) := by rw [Hid, HTK.out]; exact hO9
          clear hI hJ hVv hO9 hr9 hVB hB67 d3 dl hif
          go_wp2_with (at_builtin; refine wpList_append_eq rfl _ _ _ rfl _ _ rfl rfl HR9.out ?_)
          go_roundw
          case rel => exact ⟨i + 1, _, _, by go_num, hlt, HO9.out⟩
          case measure => simp [intOf]; omega
    · obtain rfl : i = vn := by omega
      have h1 := HJ.out
      rw [HVN.out, List.take_length, ← HVN.out] at h1
      have o0 := h1.cell 0 _ rfl
      have o1 := h1.cell 1 _ rfl
      have ol := h1.lt
      have hR : Blk wr (X + 1) [(.slice none 0 0), (.slice none 0 0)] 27 := (h1.below.block (X + 1) (by have := HOX.out; omega)).trans HR1.out
      have r0 := hR.cell 0 _ rfl
      have r1 := hR.cell 1 _ rfl
      have rl := hR.lt
      have f0 := hR.free 0
      have s1 := hR.set 0 (.slice oa i oc)
      have r2 := s1.cell 1 _ rfl
      have f2 := s1.free 1
      have s2 := s1.set 1 (.slice a3 un c3)
      have r3 := s2.cell 0 _ rfl
      have r4 := s2.cell 1 _ rfl
      have HE := hid (HFIN.out wr (.slice oa i oc) h1)
      clear hR s1 s2 h1
      go_wp2_with fail
      refine bodyPost_ret (v := .agg #[.slice oa i oc, .slice a3 un c3]) ?_ rfl HE.out
      simp [results, Tryz.results37, go_sem, r3, r4]
theorem tree_CopyQ {w0 : World} (lo : Nat) : ∀ d, TCopyQOk w0 lo d
  | 0 => fun _ _ x _ _ _ _ => x.elim
  | d + 1 => tree_CopyQ_step lo d (tree_CopyQ lo d)
end Go.Proofs.YtaefpjecalnbcaaGreat
namespace Go.Proofs.YtaefpjecalnbcaaGreat
open Go.RowKit Go.Shelf
def QV (lo hi d m : Nat) (i : Nat) (w : World) (wv tv sv : Value) (y : Val (M d)) : Prop :=
  if i < m then ValQ (fun _ w u z => MsgQ UNil lo hi d w u z) lo hi w wv tv sv y else ValQ (fun _ w u z => MsgQ UAny lo hi d w u z) lo hi w wv tv sv y
def QS (lo hi d m : Nat) (i : Nat) (w : World) (u : Value) (z : M d) : Prop := if i < m then MsgQ UNil lo hi d w u z else MsgQ UAny lo hi d w u z
theorem ValQ.nilw {lo hi d : Nat} {U : Nat → Nat → World → Value → List (List UInt8) → Prop} (hU : ∀ w w' v l, U lo hi w v l → U lo hi w' v l ∧ U lo hi w' (.slice none 0 0) l) {w w' : World} {wv tv sv : Value} {y : Val (M d)} (h : ValQ (fun _ w u z => MsgQ U lo hi d w u z) lo hi w wv tv sv y) (hw : NilW lo w w') :
    ValQ (fun _ w u z => MsgQ U lo hi d w u z) lo hi w' wv tv sv y :=
  ⟨h.1, h.2.1.nil hw, h.2.2.1.nil hw, h.2.2.2.nil hw fun _ a b z _ hz => MsgQ.nil hU d w w' a b z hz hw⟩
theorem qv_nil {lo hi d m : Nat} {w w' : World} {v : Value} {l : List (Val (M d))} (h : ValsQ (QV lo hi d m) lo hi w v l) (hw : NilW lo w w') : ValsQ (QV lo hi d m) lo hi w' v l :=
  h.nil hw fun i wv tv sv x _ hx => by
    unfold QV at hx ⊢
    split
    · rename_i hi; rw [if_pos hi] at hx; exact hx.nilw (unil_nil lo _) hw
    · rename_i hi; rw [if_neg hi] at hx; exact hx.nilw (uany_nil lo _) hw
theorem qs_nil {lo hi d m : Nat} {w w' : World} {v : Value} {l : List (M d)} (h : SubsQ (QS lo hi d m) lo hi w v l) (hw : NilW lo w w') : SubsQ (QS lo hi d m) lo hi w' v l :=
  h.nil hw fun i a b x _ hx => by
    unfold QS at hx ⊢
    by_cases hi' : i < m
    · rw [if_pos hi'] at hx; rw [if_pos hi', if_pos hi']; exact MsgQ.nil (unil_nil lo hi) d w w' a b x hx hw
    · rw [if_neg hi'] at hx; rw [if_neg hi', if_neg hi']; exact MsgQ.nil (uany_nil lo hi) d w w' a b x hx hw
theorem qv_start {lo hi d : Nat} {w : World} {v : Value} {l : List (Val (M d))} (h : ValsQ (fun _ w wv tv sv y => ValQ (fun _ w u z => MsgQ UAny lo hi d w u z) lo hi w wv tv sv y) lo hi w v l) : ValsQ (QV lo hi d 0) lo hi w v l :=
  h.agree (fun _ _ _ => rfl) fun i _ _ _ _ _ hx => by unfold QV; rw [if_neg (by omega)]; exact hx
theorem qs_start {lo hi d : Nat} {w : World} {v : Value} {l : List (M d)} (h : SubsQ (fun _ w u z => MsgQ UAny lo hi d w u z) lo hi w v l) : SubsQ (QS lo hi d 0) lo hi w v l :=
  h.agree (fun _ _ _ => rfl) fun i _ _ _ _ hx => by unfold QS; rw [if_neg (by omega)]; exact hx
theorem qv_all {lo hi d m : Nat} {w : World} {v : Value} {l : List (Val (M d))} (h : ValsQ (QV lo hi d m) lo hi w v l) (hm : l.length ≤ m) : ValsQ (fun _ w wv tv sv y => ValQ (fun _ w u z => MsgQ UNil lo hi d w u z) lo hi w wv tv sv y) lo hi w v l :=
  h.agree (fun _ _ _ => rfl) fun i _ _ _ _ hl hx => by
    have := (List.getElem?_eq_some_iff.1 hl).1
    unfold QV at hx; rw [if_pos (by omega)] at hx; exact hx
theorem qs_all {lo hi d m : Nat} {w : World} {v : Value} {l : List (M d)} (h : SubsQ (QS lo hi d m) lo hi w v l) (hm : l.length ≤ m) : SubsQ (fun _ w u z => MsgQ UNil lo hi d w u z) lo hi w v l :=
  h.agree (fun _ _ _ => rfl) fun i _ _ _ hl hx => by
    have := (List.getElem?_eq_some_iff.1 hl).1
    unfold QS at hx; rw [if_pos (by omega)] at hx; exact hx
theorem qv_step {lo hi d m g n c : Nat} {w : World} {l : List (Val (M d))} {cur : Array Value} {sv : Value} {y : Val (M d)} (h : ValsQ (QV lo hi d m) lo hi w (.slice (some ⟨g, 0, none⟩) n c) l) (hg : w.heap[g]? = some (.cells cur 67 (0, 0))) (hs : cur[m * 4 + 3]? = some sv) (hy : l[m]? = some y)
    (hS : SubsQ (fun _ w u z => MsgQ UNil lo hi d w u z) lo hi w sv y.subs) : ValsQ (QV lo hi d (m + 1)) lo hi w (.slice (some ⟨g, 0, none⟩) n c) l := by
  refine ⟨h.1, ?_⟩
  rcases h.2 with ⟨h2, -⟩ | ⟨g', cap, cur', hv, hb, hg', hnc, hcm, hcs, hall⟩
  · cases h2
  · refine .inr ⟨g', cap, cur', hv, hb, hg', hnc, hcm, hcs, fun i x hx => ?_⟩
    obtain ⟨wv, tv, sv', e0, e1, e2, e3, hp⟩ := hall i x hx
    refine ⟨wv, tv, sv', e0, e1, e2, e3, ?_⟩
    unfold QV at hp ⊢
    by_cases him : i = m
    · subst him
      rw [hy] at hx
      cases hx
      obtain rfl : g = g' := by injection hv with h1 _ _; injection h1 with h1; injection h1
      rw [hg] at hg'
      obtain rfl : cur = cur' := by injection hg' with h1; injection h1
      rw [hs] at e3
      cases e3
      rw [if_neg (by omega)] at hp
      rw [if_pos (by omega)]
      exact ⟨hp.1, hp.2.1, hp.2.2.1, hS⟩
    · by_cases hlt : i < m
      · rw [if_pos hlt] at hp; rw [if_pos (by omega)]; exact hp
      · rw [if_neg hlt] at hp; rw [if_neg (by omega)]; exact hp
theorem qs_step {lo hi d m g n c : Nat} {w : World} {l : List (M d)} {cur : Array Value} {c1 c2 : Value} {y : M d} (h : SubsQ (QS lo hi d m) lo hi w (.slice (some ⟨g, 0, none⟩) n c) l) (hg : w.heap[g]? = some (.cells cur 27 (0, 0))) (h1 : cur[m * 2]? = some c1) (h2 : cur[m * 2 + 1]? = some c2) (hy : l[m]? = some y)
    (hS : MsgQ UNil lo hi d w (.agg #[c1, c2]) y) : SubsQ (QS lo hi d (m + 1)) lo hi w (.slice (some ⟨g, 0, none⟩) n c) l := by
  refine ⟨h.1, ?_⟩
  rcases h.2 with ⟨h3, -⟩ | ⟨g', cap, cur', hv, hb, hg', hnc, hcm, hcs, hall⟩
  · cases h3
  · refine .inr ⟨g', cap, cur', hv, hb, hg', hnc, hcm, hcs, fun i x hx => ?_⟩
    obtain ⟨k1, k2, e1, e2, hp⟩ := hall i x hx
    refine ⟨k1, k2, e1, e2, ?_⟩
    unfold QS at hp ⊢
    by_cases him : i = m
    · subst him
      rw [hy] at hx
      cases hx
      obtain rfl : g = g' := by injection hv with h1 _ _; injection h1 with h1; injection h1
      rw [hg] at hg'
      obtain rfl : cur = cur' := by injection hg' with h1; injection h1
      rw [h1] at e1
      rw [h2] at e2
      cases e1
      cases e2
      rw [if_pos (by omega)]
      exact hS
    · by_cases hlt : i < m
      · rw [if_pos hlt] at hp; rw [if_pos (by omega)]; exact hp
      · rw [if_neg hlt] at hp; rw [if_neg (by omega)]; exact hp
theorem cell_cur {w : World} {g j : Nat} {cur : Array Value} {T : TypeId} {u : Value} (h : w.heap[g]? = some (.cells cur T (0, 0))) (hu : cur[j]? = some u) : w.cell? ⟨g, j, none⟩ = some u := by
  unfold World.cell?; rw [h]; simpa using hu
theorem free_cur {w : World} {g j : Nat} {cur : Array Value} {T : TypeId} (h : w.heap[g]? = some (.cells cur T (0, 0))) : w.frozen? ⟨g, j, none⟩ = false := by
  simp [World.frozen?, h]
theorem ValsQ.open {α : Type} {P : Nat → World → Value → Value → Value → Val α → Prop} {lo hi n c i : Nat} {a : Option Addr} {w : World} {l : List (Val α)} {v : Val α} (h : ValsQ P lo hi w (.slice a n c) l) (hv : l[i]? = some v) :
    ∃ g cur wv tv sv, a = some ⟨g, 0, none⟩ ∧ w.heap[g]? = some (.cells cur 67 (0, 0)) ∧ cur[i * 4]? = some (.int .i64 v.num) ∧ cur[i * 4 + 1]? = some wv ∧ cur[i * 4 + 2]? = some tv ∧ cur[i * 4 + 3]? = some sv ∧ P i w wv tv sv v := by
  rcases h.2 with ⟨-, rfl⟩ | ⟨g, cap, cur, hs, -, hg, -, -, -, hall⟩
  · cases hv
  · obtain ⟨wv, tv, sv, e0, e1, e2, e3, hp⟩ := hall i v hv
    injection hs with h1 _ _
    exact ⟨g, cur, wv, tv, sv, h1, hg, e0, e1, e2, e3, hp⟩
theorem SubsQ.open {α : Type} {P : Nat → World → Value → α → Prop} {lo hi n c i : Nat} {a : Option Addr} {w : World} {l : List α} {v : α} (h : SubsQ P lo hi w (.slice a n c) l) (hv : l[i]? = some v) :
    ∃ g cur c1 c2, a = some ⟨g, 0, none⟩ ∧ lo ≤ g ∧ w.heap[g]? = some (.cells cur 27 (0, 0)) ∧ cur[i * 2]? = some c1 ∧ cur[i * 2 + 1]? = some c2 ∧ P i w (.agg #[c1, c2]) v := by
  rcases h.2 with ⟨-, rfl⟩ | ⟨g, cap, cur, hs, hb, hg, -, -, -, hall⟩
  · cases hv
  · obtain ⟨c1, c2, e1, e2, hp⟩ := hall i v hv
    injection hs with h1 _ _
    exact ⟨g, cur, c1, c2, h1, hb.1, hg, e1, e2, hp⟩
theorem SubsQ.form {α : Type} {P : Nat → World → Value → α → Prop} {lo hi : Nat} {w : World} {v : Value} {l : List α} (h : SubsQ P lo hi w v l) : ∃ a c, v = .slice a l.length c := by
  rcases h.2 with ⟨rfl, rfl⟩ | ⟨g, cap, cur, rfl, -⟩
  · exact ⟨none, 0, rfl⟩
  · exact ⟨_, _, rfl⟩
theorem subs_put {lo hi d k g so n c : Nat} {wr w1 : World} {l : List (M d)} {cur : Array Value} {c1 c2 : Value} {y : M d} (hso : so = 0) (hI : SubsQ (QS lo hi d k) lo hi wr (.slice (some ⟨g, so, none⟩) n c) l) (hy : l[k]? = some y) (hg : wr.heap[g]? = some (.cells cur 27 (0, 0))) (hl : lo ≤ g)
    (e1 : cur[k * 2]? = some c1) (e2 : cur[k * 2 + 1]? = some c2) (hn : NilW lo wr w1) (hM : MsgQ UNil lo hi d w1 (.agg #[c1, .slice none 0 0]) y) :
    NilW lo wr ((w1.setCell ⟨g, so + k * 2, none⟩ c1).setCell ⟨g, so + k * 2 + 1, none⟩ (.slice none 0 0)) ∧ SubsQ (QS lo hi d (k + 1)) lo hi ((w1.setCell ⟨g, so + k * 2, none⟩ c1).setCell ⟨g, so + k * 2 + 1, none⟩ (.slice none 0 0)) (.slice (some ⟨g, so, none⟩) n c) l ∧
      w1.cell? ⟨g, so + k * 2, none⟩ = some c1 ∧ (∃ u, w1.cell? ⟨g, so + k * 2 + 1, none⟩ = some u) ∧ w1.frozen? ⟨g, so + k * 2, none⟩ = false ∧ w1.frozen? ⟨g, so + k * 2 + 1, none⟩ = false ∧ g < w1.heap.size := by
  subst hso
  rw [Nat.zero_add]
  obtain ⟨cur', f1, f2, f3⟩ := hn.msg g cur hg
  have k1 : cur'[k * 2]? = some c1 := by
    rcases f3 _ _ e1 with h | ⟨h, -⟩
    · exact h
    · omega
  obtain ⟨u, k2⟩ : ∃ u, cur'[k * 2 + 1]? = some u := by rcases f3 _ _ e2 with h | ⟨-, h⟩ <;> exact ⟨_, h⟩
  obtain ⟨n1, h1⟩ := (NilW.refl lo w1).set_same g (k * 2) cur' c1 f1 hl k1
  have n2 := n1.set_nil g (k * 2 + 1) cur' h1 hl (by omega)
  obtain ⟨cur2, q1, -, -⟩ := n2.msg g cur' f1
  have hlt := (Array.getElem?_eq_some_iff.1 f1).1
  have z1 : cur2[k * 2]? = some c1 := by
    have a1 : ((w1.setCell ⟨g, k * 2, none⟩ c1).setCell ⟨g, k * 2 + 1, none⟩ (.slice none 0 0)).cell? ⟨g, k * 2, none⟩ = some c1 := by
      rw [World.cell?_setCell_other _ _ _ _ (by simp)]
      exact cell_cur h1 k1
    unfold World.cell? at a1
    rw [q1] at a1
    simpa using a1
  have z2 : cur2[k * 2 + 1]? = some (.slice none 0 0) := by
    obtain ⟨c3, r1, -, r3⟩ := (NilW.refl lo _).set_nil (w' := w1.setCell ⟨g, k * 2, none⟩ c1) g (k * 2 + 1) cur' h1 hl (by omega) |>.msg g cur' h1
    have hb : k * 2 + 1 < cur'.size := (Array.getElem?_eq_some_iff.1 k2).1
    obtain ⟨hlt1, hk1⟩ := Array.getElem?_eq_some_iff.1 h1
    have e : ((w1.setCell ⟨g, k * 2, none⟩ c1).setCell ⟨g, k * 2 + 1, none⟩ (.slice none 0 0)).heap[g]? = some (.cells (cur'.setIfInBounds (k * 2 + 1) (.slice none 0 0)) 27 (0, 0)) := by
      show ((w1.setCell ⟨g, k * 2, none⟩ c1).heap.modify g _)[g]? = _
      rw [Array.getElem?_eq_getElem (by rw [Array.size_modify]; exact hlt1), Array.getElem_modify_self, hk1]
      rfl
    rw [q1] at e
    injection e with e
    injection e with e
    rw [e, Array.getElem?_setIfInBounds_self_of_lt hb]
  exact ⟨hn.trans n2, qs_step (qs_nil hI (hn.trans n2)) q1 z1 z2 hy (MsgQ.nil (unil_nil lo hi) d w1 _ _ _ y hM n2).1, cell_cur f1 k1, ⟨u, cell_cur f1 k2⟩, free_cur f1, free_cur f1, hlt⟩
def PlainOk (d : Nat) : Prop := ∀ (lo hi : Nat) (w : World) (v : Value) (x : M d), lo ≤ w.heap.size → hi ≤ w.heap.size → MsgQ UAny lo hi d w v x →
  Calls Tryz.prog 39 #[v] w fun e w' => ∃ a n c uv, e = .returned (.agg #[.slice a n c, .slice none 0 0]) ∧ v = .agg #[.slice a n c, uv] ∧ NilW lo w w' ∧ MsgQ UNil lo hi d w' (.agg #[.slice a n c, .slice none 0 0]) x
set_option maxRecDepth 100000 in
set_option maxHeartbeats 8000000 in
theorem alg_plain_step (d : Nat) (hrec : PlainOk d) : PlainOk (d + 1) := by
  intro lo hi w v x hlo hhi hx
  have HRE := hid hrec
  obtain ⟨vv, uv, rfl, ⟨ua, un, uc, rfl⟩, hV⟩ := hx
  obtain ⟨va, vc, rfl⟩ : ∃ a c, vv = .slice a (M.vals x).length c := by
    rcases hV.2 with ⟨rfl, h⟩ | ⟨g, cap, cur, rfl, -⟩
    · exact ⟨none, 0, by rw [h]; rfl⟩
    · exact ⟨_, _, rfl⟩
  obtain ⟨vn, HVN⟩ : ∃ n, Hid (n = (M.vals x).length) := ⟨_, rfl⟩
  have hvn : vn ≤ 140737488355328 := by rw [HVN.out]; exact hV.1
  rw [← HVN.out] at hV ⊢
  obtain ⟨X, HX⟩ : ∃ X, Hid (X = w.heap.size) := ⟨_, rfl⟩
  obtain ⟨Q, HQ⟩ : ∃ Q : Ending → World → Prop, Hid (Q = fun e w' => ∃ a n c uv, e = .returned (.agg #[.slice a n c, .slice none 0 0]) ∧ Value.agg #[.slice va vn vc, .slice ua un uc] = .agg #[.slice a n c, uv] ∧ NilW lo w w' ∧ MsgQ UNil lo hi (d + 1) w' (.agg #[.slice a n c, .slice none 0 0]) x) := ⟨_, rfl⟩
  rw [← HQ.out]
  obtain ⟨W0, HW0⟩ : ∃ W, Hid (W = (w.alloc (.cells #[.slice va vn vc, .slice ua un uc] 27)).alloc (.cells #[.slice none 0 0, .slice none 0 0] 27)) := ⟨_, rfl⟩
  have hb0 : Below w.heap.size w W0 := by rw [HW0.out]; (repeat (first | with_reducible exact Below.refl _ _ | with_reducible refine Below.setCell ?_ (by first | omega | (simp; omega) | (simp; done)) _ | with_reducible refine Below.alloc ?_ (by first | omega | (simp; omega) | (simp; done)) _ | with_reducible refine below_drewN ?_ _ | with_reducible refine Below.drew ?_))
  have hk0 : Blk W0 X [.slice va vn vc, .slice ua un uc] 27 := by rw [HW0.out, HX.out]; exact (Blk.new w [.slice va vn vc, .slice ua un uc] _).alloc _
  have hk1 : Blk W0 (X + 1) [.slice none 0 0, .slice none 0 0] 27 := by rw [HW0.out, HX.out]; exact Blk.new' _ [.slice none 0 0, .slice none 0 0] _ _ (by simp)
  obtain ⟨W1, HW1⟩ : ∃ W, Hid (W = W0.setCell ⟨X, 1, none⟩ (.slice none 0 0)) := ⟨_, rfl⟩
  have hx1 : Blk W1 X [.slice va vn vc, .slice none 0 0] 27 := by rw [HW1.out]; exact hk0.set 1 _
  have hr1 : Blk W1 (X + 1) [.slice none 0 0, .slice none 0 0] 27 := by rw [HW1.out]; exact hk1.set_other _ _ (by show X + 1 ≠ X; omega)
  have hn1 : NilW lo w W1 := by rw [HW1.out]; exact (NilW.of_below hb0 hlo).set_new hlo _ _ (by rw [HX.out]; exact Nat.le_refl _)
  have HN1 := hid hn1
  have HV1 := hid (qv_nil (qv_start hV) hn1)
  have HK1 := hid (And.intro hx1 hr1)
  have HLO := hid (And.intro hlo hhi)
  have HFIN : Hid (∀ wr, NilW lo W1 wr → ValsQ (QV lo hi d vn) lo hi wr (.slice va vn vc) (M.vals x) → Q (.returned (.agg #[.slice va vn vc, .slice none 0 0])) ((wr.setCell ⟨X + 1, 0, none⟩ (.slice va vn vc)).setCell ⟨X + 1, 1, none⟩ (.slice none 0 0))) := by
    intro wr hn hv
    rw [HQ.out]
    have h1 := HLO.out
    have h2 := HX.out
    refine ⟨_, _, _, _, rfl, rfl, ((HN1.out.trans hn).set_new h1.1 _ _ (by show w.heap.size ≤ X + 1; omega)).set_new h1.1 _ _ (by show w.heap.size ≤ X + 1; omega), ?_⟩
    refine MsgQ.agree (w := wr) (U := UNil) (fun b hb1 hb2 => ?_) (fun v l h => (unil_nil lo hi _ _ v l h).1) (d + 1) (.agg #[.slice va vn vc, .slice none 0 0]) x ⟨_, _, rfl, rfl, qv_all hv (by rw [← HVN.out]; exact Nat.le_refl _)⟩
    have hne : b ≠ X + 1 := by omega
    rw [Below.heap_setCell _ _ _ b hne, Below.heap_setCell _ _ _ b hne]
  have x1 := hk0.cell 1 _ rfl
  have xf := hk0.free 1
  have xl := hk0.lt
  have y0 := hx1.cell 0 _ rfl
  have yl := hx1.lt
  clear hb0 hk0 hk1 hx1 hr1 hn1 hV hlo hhi hrec HQ
  go_enter Tryz.func39, Tryz.ntmps39
  go_upto_region 1 with fail
  rw [← HW0.out, ← HX.out]
  go_upto_region 2 with fail
  rw [← HW1.out]
  clear x1 xf xl
  go_wp2_with fail
  clear y0 yl
  go_loopw [10] (fun v10 wr => ∃ i : Nat, v10 = .int .i64 (i : Int) ∧ i ≤ vn ∧ Hid (NilW lo W1 wr ∧ ValsQ (QV lo hi d i) lo hi wr (.slice va vn vc) (M.vals x))) (fun v10 _ => vn - (intOf v10).toNat)
  case atStart => exact ⟨0, rfl, by omega, NilW.refl _ _, HV1.out⟩
  case round =>
    obtain ⟨i, rfl, hi', HJ⟩ := hrel
    by_cases hlt : i < vn
    · obtain ⟨v, hv⟩ : ∃ v, (M.vals x)[i]? = some v := ⟨_, List.getElem?_eq_getElem (by rw [← HVN.out]; exact hlt)⟩
      obtain ⟨g, cur, wv, tv, sv, hva, hg, e0, e1, e2, e3, hP⟩ := HJ.out.2.open hv
      unfold QV at hP
      rw [if_neg (by omega)] at hP
      obtain ⟨-, hw, ht, hs⟩ := hP
      obtain ⟨a1, q1, rfl⟩ := WordsOwn.form hw.1
      obtain ⟨a2, q2, rfl⟩ := StrsOwn.form ht.1
      obtain ⟨a4, q4, rfl⟩ := hs.form
      obtain ⟨num, HNUM⟩ : ∃ n, Hid (n = v.num) := ⟨_, rfl⟩
      obtain ⟨n1, HN1'⟩ : ∃ n, Hid (n = v.words.length) := ⟨_, rfl⟩
      obtain ⟨n2, HN2⟩ : ∃ n, Hid (n = v.texts.length) := ⟨_, rfl⟩
      obtain ⟨n3, HN3⟩ : ∃ n, Hid (n = v.subs.length) := ⟨_, rfl⟩
      rw [← HNUM.out] at e0
      rw [← HN1'.out] at e1
      rw [← HN2.out] at e2
      rw [← HN3.out] at e3 hs
      have hn3 : n3 ≤ 140737488355328 := by rw [HN3.out]; exact hs.1
      obtain ⟨o, HO⟩ : ∃ o : Nat, Hid (o = 0) := ⟨0, rfl⟩
      have ha : va = some ⟨g, o, none⟩ := by rw [HO.out]; exact hva
      have g0 : wr.cell? ⟨g, o + i * 4, none⟩ = some (.int .i64 num) := by rw [HO.out, Nat.zero_add]; exact cell_cur hg e0
      have g1 : wr.cell? ⟨g, o + i * 4 + 1, none⟩ = some (.slice a1 n1 q1) := by rw [HO.out, Nat.zero_add]; exact cell_cur hg e1
      have g2 : wr.cell? ⟨g, o + i * 4 + 2, none⟩ = some (.slice a2 n2 q2) := by rw [HO.out, Nat.zero_add]; exact cell_cur hg e2
      have g3 : wr.cell? ⟨g, o + i * 4 + 3, none⟩ = some (.slice a4 n3 q4) := by rw [HO.out, Nat.zero_add]; exact cell_cur hg e3
      have hix := index_run Tryz.underlying24 size_val ha i hlt (cap := vc)
      have hbl := World.block_lt_of_cell? wr _ g0
      obtain ⟨Y, HY⟩ : ∃ Y, Hid (Y = wr.heap.size) := ⟨_, rfl⟩
      obtain ⟨W6, HW6⟩ : ∃ W6, Hid (W6 = wr.alloc (.cells #[.int .i64 num, .slice a1 n1 q1, .slice a2 n2 q2, .slice a4 n3 q4] 67)) := ⟨_, rfl⟩
      have hb6 : Below wr.heap.size wr W6 := by rw [HW6.out]; exact (Below.refl _ _).alloc (Nat.le_refl _) _
      have hv6 : Blk W6 Y [.int .i64 num, .slice a1 n1 q1, .slice a2 n2 q2, .slice a4 n3 q4] 67 := by rw [HW6.out, HY.out]; exact Blk.new wr [.int .i64 num, .slice a1 n1 q1, .slice a2 n2 q2, .slice a4 n3 q4] _
      have HLW : Hid (lo ≤ wr.heap.size ∧ hi ≤ wr.heap.size) := ⟨Nat.le_trans HLO.out.1 (Nat.le_trans HN1.out.size HJ.out.1.size), Nat.le_trans HLO.out.2 (Nat.le_trans HN1.out.size HJ.out.1.size)⟩
      have HN6 := hid (NilW.of_below hb6 HLW.out.1)
      have HS6 := hid (qs_nil (qs_start hs) HN6.out)
      have HV6 := hid hv6
      have HG := hid (And.intro hg e3)
      have HVV := hid hv
      have HVA := hid hva
      have d3 := hv6.cell 3 _ rfl
      have dl := hv6.lt
      clear hw ht hs hv e0 e1 e2 e3 hb6 hv6 hg hva ha
      go_upto_region 5 with fail
      rw [← HW6.out, ← HY.out]
      clear g0 g1 g2 g3 hix hbl
      go_wp2_with fail
      obtain ⟨w5, hw5⟩ : ∃ u, u = wr := ⟨_, rfl⟩
      rw [← hw5] at HJ HY HW6 HLW HN6 HG
      clear hw5 d3 dl
      go_loopw [17] (fun v17 wr => ∃ k : Nat, v17 = .int .i64 (k : Int) ∧ k ≤ n3 ∧ Hid (NilW lo W6 wr ∧ SubsQ (QS lo hi d k) lo hi wr (.slice a4 n3 q4) v.subs)) (fun v17 _ => n3 - (intOf v17).toNat)
      case atStart => exact ⟨0, rfl, by omega, NilW.refl _ _, HS6.out⟩
      case round =>
        obtain ⟨k, rfl, hk, HI⟩ := hrel
        by_cases hlk : k < n3
        · obtain ⟨y, hy⟩ : ∃ y, v.subs[k]? = some y := ⟨_, List.getElem?_eq_getElem (by rw [← HN3.out]; exact hlk)⟩
          obtain ⟨sg, scur, c1, c2, hsa0, hsl, hsg, e1, e2, hp⟩ := HI.out.2.open hy
          unfold QS at hp
          rw [if_neg (by omega)] at hp
          obtain ⟨m1, k1, r1, m2, k2, r2, hf⟩ := hp.form
          obtain ⟨rfl, rfl⟩ : c1 = .slice m1 k1 r1 ∧ c2 = .slice m2 k2 r2 := by cases hf; exact ⟨rfl, rfl⟩
          obtain ⟨so, HSO⟩ : ∃ o : Nat, Hid (o = 0) := ⟨0, rfl⟩
          have hsa : a4 = some ⟨sg, so, none⟩ := by rw [HSO.out]; exact hsa0
          have s0 : wr.cell? ⟨sg, so + k * 2, none⟩ = some (.slice m1 k1 r1) := by rw [HSO.out, Nat.zero_add]; exact cell_cur hsg e1
          have s1 : wr.cell? ⟨sg, so + k * 2 + 1, none⟩ = some (.slice m2 k2 r2) := by rw [HSO.out, Nat.zero_add]; exact cell_cur hsg e2
          have hixs := index_run Tryz.underlying65 size_msg hsa k hlk (cap := q4)
          have hvb : Blk wr Y [.int .i64 num, .slice a1 n1 q1, .slice a2 n2 q2, .slice a4 n3 q4] 67 := HI.out.1.blk HV6.out (by decide)
          have hd3 := hvb.cell 3 _ rfl
          have HVB := hid hvb
          have HSZ : Hid (lo ≤ wr.heap.size ∧ hi ≤ wr.heap.size) := ⟨Nat.le_trans HLW.out.1 (Nat.le_trans HN6.out.size HI.out.1.size), Nat.le_trans HLW.out.2 (Nat.le_trans HN6.out.size HI.out.1.size)⟩
          have HC := hid (HRE.out lo hi wr.drew _ y HSZ.out.1 HSZ.out.2 (MsgQ.agree (w := wr) (w' := wr.drew) (fun _ _ _ => rfl) (fun _ _ h => h) d _ y hp))
          have HSG := hid (And.intro hsg (And.intro e1 e2))
          have HSL := hid hsl
          have HYY := hid hy
          have HII : Hid (SubsQ (QS lo hi d k) lo hi wr (.slice (some ⟨sg, so, none⟩) n3 q4) v.subs) := by rw [← hsa]; exact HI.out.2
          have hq : wr.drew.cell? ⟨Y, 3, none⟩ = some (.slice a4 n3 q4) := hd3
          have hx : wr.drew.cell? ⟨sg, so + k * 2, none⟩ = some (.slice m1 k1 r1) ∧ wr.drew.cell? ⟨sg, so + k * 2 + 1, none⟩ = some (.slice m2 k2 r2) := ⟨s0, s1⟩
          have HQX := hid (And.intro hq hx)
          have HSA := hid hsa
          clear hsa hp hf hsg e1 e2 hsa0 hsl hvb hd3 s0 s1 hy hq hx
          go_upto_region 8 with fail
          refine wp_region_perm (fun w' => w'.cell? ⟨Y, 3, none⟩ = some (.slice a4 n3 q4)) (fun w' => w'.cell? ⟨sg, so + k * 2, none⟩ = some (.slice m1 k1 r1) ∧ w'.cell? ⟨sg, so + k * 2 + 1, none⟩ = some (.slice m2 k2 r2)) 8 [(0, 0), (1, 0), (2, 0), (3, 0), (4, 0), (5, 0), (6, 0), (7, 1), (8, 2), (9, 0), (10, 2)] (by kernel_rfl) rfl rfl (by kernel_rfl) (fun _ _ dst _ _ h => by cases dst <;> exact h) HQX.out.1 HQX.out.2 (fun OPS _ => ?_)
          simp only [List.map_cons, List.map_nil, List.filterMap_cons, List.filterMap_nil, List.getElem?_cons_succ, List.getElem?_cons_zero]
          refine seqG0 (v := ?v0) ?hy0 ?hr0
          case hy0 => (intro w hw; go_simp; all_goals rfl)
          simp only [Act.put, List.setIfInBounds_toArray, List.set_cons_zero, List.set_cons_succ]
          refine seqG0 (v := ?v1) ?hy1 ?hr1
          case hy1 => (intro w hw; go_simp; all_goals rfl)
          simp only [Act.put, List.setIfInBounds_toArray, List.set_cons_zero, List.set_cons_succ]
          refine seqG0 (v := ?v2) ?hy2 ?hr2
          case hy2 => (intro w hw; go_simp; all_goals rfl)
          simp only [Act.put, List.setIfInBounds_toArray, List.set_cons_zero, List.set_cons_succ]
          refine seqG0 (v := ?v3) ?hy3 ?hr3
          case hy3 => (intro w hw; go_simp; all_goals rfl)
          simp only [Act.put, List.setIfInBounds_toArray, List.set_cons_zero, List.set_cons_succ]
          refine seqG0 (v := ?v4) ?hy4 ?hr4
          case hy4 => (intro w hw; go_simp; all_goals rfl)
          simp only [Act.put, List.setIfInBounds_toArray, List.set_cons_zero, List.set_cons_succ]
          refine seqG0 (v := ?v5) ?hy5 ?hr5
          case hy5 => (intro w hw; go_simp; all_goals rfl)
          simp only [Act.put, List.setIfInBounds_toArray, List.set_cons_zero, List.set_cons_succ]
          refine seqG0 (v := ?v6) ?hy6 ?hr6
          case hy6 => (intro w hw; go_simp; all_goals rfl)
          simp only [Act.put, List.setIfInBounds_toArray, List.set_cons_zero, List.set_cons_succ]
          refine seqG1 (v := ?v7) ?hy7 ?hr7
          case hy7 => (intro w hw; go_simp; all_goals rfl)
          simp only [Act.put, List.setIfInBounds_toArray, List.set_cons_zero, List.set_cons_succ]
          refine seqG2 (fun K12 HK12 => ?_)
          go_wp2_with fail
          refine HC.out.mono ?_
          rintro e w10 ⟨p1, p1n, p1c, puv, rfl, hpe, hn10, hM10⟩
          obtain ⟨rfl, rfl, rfl⟩ : m1 = p1 ∧ k1 = p1n ∧ r1 = p1c := by cases hpe; exact ⟨rfl, rfl, rfl⟩
          clear hpe
          have hn10' : NilW lo wr w10 := (NilW.refl lo wr).drew.trans hn10
          obtain ⟨hN12, hS12, z0, ⟨u2, z1⟩, f0, f1, zl⟩ := subs_put HSO.out HII.out HYY.out HSG.out.1 HSL.out HSG.out.2.1 HSG.out.2.2 hn10' hM10
          have hV10 : w10.cell? ⟨Y, 3, none⟩ = some (.slice a4 n3 q4) := (hn10'.blk HVB.out (by decide)).cell 3 _ rfl
          obtain ⟨W12, HW12⟩ : ∃ W, Hid (W = (w10.setCell ⟨sg, so + k * 2, none⟩ (.slice m1 k1 r1)).setCell ⟨sg, so + k * 2 + 1, none⟩ (.slice none 0 0)) := ⟨_, rfl⟩
          rw [← HW12.out] at hN12 hS12
          have hV12 : W12.cell? ⟨Y, 3, none⟩ = some (.slice a4 n3 q4) := (hN12.blk HVB.out (by decide)).cell 3 _ rfl
          have HN12 := hid hN12
          have HS12 := hid hS12
          have HV12 := hid hV12
          clear hN12 hS12 hV12 hn10 hM10 hn10'
          go_wp2_with fail
          refine HK12.out _ _ hV10 ?_
          clear HK12 K12
          intro _
          refine seqG0 (v := ?v30) ?hy30 ?hr30
          case hy30 => (intro w hw; go_simp; all_goals rfl)
          simp only [Act.put, List.setIfInBounds_toArray, List.set_cons_zero, List.set_cons_succ]
          refine seqG2 (fun K12 HK12 => ?_)
          go_wp2_with fail
          rw [← HW12.out]
          refine HK12.out _ _ HV12.out ?_
          clear HK12 K12 z0 z1 f0 f1 zl hV10
          intro _
          refine seqG_end ?_
          go_wp2_with fail
          go_roundw
          case rel => exact ⟨k + 1, by go_num, hlk, HI.out.1.trans HN12.out, by rw [HSA.out]; exact HS12.out⟩
          case measure => simp [intOf]; omega
        · obtain rfl : k = n3 := by omega
          have hn5 : NilW lo w5 wr := HN6.out.trans HI.out.1
          have hS := qs_all HI.out.2 (by rw [← HN3.out]; exact Nat.le_refl _)
          have hO := qv_nil HJ.out.2 hn5
          have hgr : wr.heap[g]? = some (.cells cur 67 (0, 0)) := hn5.other g _ HG.out.1 (fun c e => absurd (show (67 : TypeId) = 27 by injection e) (by decide))
          have HO2 : Hid (ValsQ (QV lo hi d (i + 1)) lo hi wr (.slice va vn vc) (M.vals x)) := by
            have h2 := HVA.out
            show ValsQ _ _ _ _ _ _
            rw [h2] at hO ⊢
            exact qv_step hO hgr HG.out.2 HVV.out hS
          have HN5 := hid (HJ.out.1.trans hn5)
          clear hn5 hS hO hgr
          go_wp2_with fail
          go_roundw
          case rel => exact ⟨i + 1, by go_num, hlt, HN5.out, HO2.out⟩
          case measure => simp [intOf]; omega
    · obtain rfl : i = vn := by omega
      have hk := HJ.out.1.blk_nil HK1.out.1
      have hr := HJ.out.1.blk_nil HK1.out.2
      have k0 := hk.cell 0 _ rfl
      have k1 := hk.cell 1 _ rfl
      have kl := hk.lt
      have r0 := hr.cell 0 _ rfl
      have r1 := hr.cell 1 _ rfl
      have rl := hr.lt
      have f0 := hr.free 0
      have s1 := hr.set 0 (.slice va i vc)
      have r2 := s1.cell 1 _ rfl
      have f2 := s1.free 1
      have s2 := s1.set 1 (.slice none 0 0)
      have r3 := s2.cell 0 _ rfl
      have r4 := s2.cell 1 _ rfl
      have HE := hid (HFIN.out wr HJ.out.1 HJ.out.2)
      clear hk hr s1 s2
      go_wp2_with fail
      refine bodyPost_ret (v := .agg #[.slice va i vc, .slice none 0 0]) ?_ rfl HE.out
      simp [results, Tryz.results39, go_sem, r3, r4]
theorem alg_plain : ∀ d, PlainOk d
  | 0 => fun _ _ _ _ x _ _ _ => x.elim
  | d + 1 => alg_plain_step d (alg_plain d)
end Go.Proofs.YtaefpjecalnbcaaGreat
