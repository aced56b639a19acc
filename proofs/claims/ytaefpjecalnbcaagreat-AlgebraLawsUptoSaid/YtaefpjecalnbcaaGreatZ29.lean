/- Plain laws: two meanings alike (sameB), a meaning's depth (depthM); as lists are gone through. No condition. Plain laws: joined is joined however put in brackets (join_assoc); nothing, joined, changes nothing; what is kept, joined with what is left, is the whole (part_join); the parts are right (right_part); each meaning is as itself (same_self). No condition. A meaning without unknown records. No condition. A meaning whose rows lie in blocks of their own, each of its row's type (MsgQ), between two numbers of blocks; worlds in which unknown records fell away (NilW). No condition. -/
import Derived.Test.YtaefpjecalnbcaaGreatZ09
import Derived.Test.YtaefpjecalnbcaaGreatZ17
import Derived.Test.YtaefpjecalnbcaaGreatZ25
import Derived.Test.YtaefpjecalnbcaaGreatZ28
namespace Go.Proofs.YtaefpjecalnbcaaGreat
open Go.RowKit
def all2 {α β : Type} (S : α → β → Bool) : List α → List β → Bool
  | [], [] => true
  | x :: r, y :: t => S x y && all2 S r t
  | _, _ => false
def sameV {α β : Type} (S : α → β → Bool) (x : Val α) (y : Val β) : Bool := decide (x.num = y.num ∧ x.words = y.words ∧ x.texts = y.texts) && all2 S x.subs y.subs
/-- are two meanings alike? -/
def sameB : (a b : Nat) → M a → M b → Bool
  | 0, _, x, _ => Empty.elim x
  | _ + 1, 0, _, y => Empty.elim y
  | a + 1, b + 1, x, y => decide (M.unk x = M.unk y) && all2 (sameV (sameB a b)) (M.vals x) (M.vals y)
theorem all2_drop {α β : Type} (S : α → β → Bool) (l : List α) (m : List β) (k : Nat) (x : α) (y : β) (h : l[k]? = some x) (h2 : m[k]? = some y) : all2 S (l.drop k) (m.drop k) = (S x y && all2 S (l.drop (k + 1)) (m.drop (k + 1))) := by
  obtain ⟨hk, rfl⟩ := List.getElem?_eq_some_iff.1 h
  obtain ⟨hk2, rfl⟩ := List.getElem?_eq_some_iff.1 h2
  rw [List.drop_eq_getElem_cons hk, List.drop_eq_getElem_cons hk2, all2]
theorem all2_len {α β : Type} (S : α → β → Bool) : ∀ (l : List α) (m : List β), l.length ≠ m.length → all2 S l m = false
  | [], [], h => absurd rfl h
  | [], _ :: _, _ => rfl
  | _ :: _, [], _ => rfl
  | x :: r, y :: t, h => by
    rw [all2, all2_len S r t (by simpa using h), Bool.and_false]
theorem drop_eq {α : Type} [DecidableEq α] (l m : List α) (k : Nat) (x y : α) (h : l[k]? = some x) (h2 : m[k]? = some y) : decide (l.drop k = m.drop k) = (decide (x = y) && decide (l.drop (k + 1) = m.drop (k + 1))) := by
  obtain ⟨hk, rfl⟩ := List.getElem?_eq_some_iff.1 h
  obtain ⟨hk2, rfl⟩ := List.getElem?_eq_some_iff.1 h2
  rw [Bool.eq_iff_iff, Bool.and_eq_true, decide_eq_true_iff, decide_eq_true_iff, decide_eq_true_iff, List.drop_eq_getElem_cons hk, List.drop_eq_getElem_cons hk2, List.cons.injEq]
theorem bytes_beq (x y : List UInt8) : ((⟨x.toArray⟩ : ByteArray).toList == (⟨y.toArray⟩ : ByteArray).toList) = decide (x = y) := by
  rw [Bool.eq_iff_iff]
  simp [ByteArray.toList_eq]
theorem formM : ∀ {d : Nat} {w : World} {v : Value} {x : M d}, MsgAt d w v x → ∃ a1 n1 c1 a2 n2 c2, v = .agg #[.slice a1 n1 c1, .slice a2 n2 c2]
  | 0, _, _, _, h => h.elim
  | d + 1, _, _, _, h => by
    obtain ⟨vv, uv, rfl, hV, hU⟩ := h
    obtain ⟨-, va, vc, rfl, -, -⟩ := hV.open
    obtain ⟨-, ua, uc, rfl, -, -⟩ := hU.open
    exact ⟨_, _, _, _, _, _, rfl⟩
theorem formV {d : Nat} {w : World} {m : Int} {v1 v2 v3 : Value} {x : Val (M d)} (h : ValAt (MsgAt d) w (.agg #[.int .i64 m, v1, v2, v3]) x) : ∃ a1 n1 c1 a2 n2 c2 a3 n3 c3, v1 = .slice a1 n1 c1 ∧ v2 = .slice a2 n2 c2 ∧ v3 = .slice a3 n3 c3 := by
  obtain ⟨wv, tv, sv, e, -, hW, hT, hS⟩ := h
  cases e
  obtain ⟨-, wa, wc, rfl, -, -⟩ := hW.open
  obtain ⟨-, ta, tc, rfl, -, -⟩ := hT.open
  obtain ⟨-, sa, sc, rfl, -, -⟩ := hS.open
  exact ⟨_, _, _, _, _, _, _, _, _, rfl, rfl, rfl⟩
end Go.Proofs.YtaefpjecalnbcaaGreat
namespace Go.Proofs.YtaefpjecalnbcaaGreat
open Go.RowKit
theorem withV_some {α : Type} {g : Val α → Val α → Val α} {a : List (Val α)} {v w : Val α} (h : getV a v.num = some w) : withV g a v = g w v := by unfold withV; rw [h]
theorem withV_none {α : Type} {g : Val α → Val α → Val α} {a : List (Val α)} {v : Val α} (h : getV a v.num = none) : withV g a v = v := by unfold withV; rw [h]
theorem joinV_assoc {α : Type} {g : Val α → Val α → Val α} (hg : ∀ w v, (g w v).num = v.num) {a b c : List (Val α)} (ha : RiseV a) (hb : RiseV b) (hc : RiseV c) (h : ∀ u ∈ a, ∀ w ∈ b, ∀ v ∈ c, u.num = w.num → w.num = v.num → g (g u w) v = g u (g w v)) :
    joinV g (joinV g a b) c = joinV g a (joinV g b c) := by
  refine rise_ext (joinV_rise g (joinV_rise g ha)) (joinV_rise g ha) fun n => ?_
  rw [joinV_get hg (joinV_rise g ha) hc, joinV_get hg ha (joinV_rise g hb), joinV_get hg hb hc, joinV_get hg ha hb]
  cases hcn : getV c n with
  | none => cases hbn : getV b n <;> rfl
  | some v =>
    obtain ⟨hvn, hvm⟩ := getV_num hcn
    show some (withV g (joinV g a b) v) = some (withV g a (withV g b v))
    have hj := joinV_get hg ha hb n
    cases hbn : getV b n with
    | none =>
      rw [hbn] at hj
      rw [withV_none (a := b) (by rw [hvn]; exact hbn)]
      cases han : getV a n with
      | none => rw [withV_none (by rw [hvn, hj]; exact han), withV_none (by rw [hvn]; exact han)]
      | some u => rw [withV_some (by rw [hvn, hj]; exact han), withV_some (by rw [hvn]; exact han)]
    | some w =>
      obtain ⟨hwn, hwm⟩ := getV_num hbn
      rw [hbn] at hj
      rw [withV_some (a := b) (by rw [hvn]; exact hbn), withV_some (a := joinV g a b) (by rw [hvn]; exact hj)]
      cases han : getV a n with
      | none => rw [withV_none (a := a) (by rw [hwn]; exact han), withV_none (a := a) (by rw [hg, hvn]; exact han)]
      | some u =>
        obtain ⟨hun, hum⟩ := getV_num han
        rw [withV_some (a := a) (by rw [hwn]; exact han), withV_some (a := a) (by rw [hg, hvn]; exact han), h u hum w hwm v hvm (by omega) (by omega)]
theorem bothV_assoc {α : Type} {R : Int → α → Bool} {J : Int → α → α → α} {f : Fld} {u w v : Val α} (hu : fitsB R f u = true) (hw : fitsB R f w = true) (hv : fitsB R f v = true)
    (hJ : ∀ x y z, R f.of x = true → R f.of y = true → R f.of z = true → J f.of (J f.of x y) z = J f.of x (J f.of y z)) : bothV J f (bothV J f u w) v = bothV J f u (bothV J f w v) := by
  unfold bothV
  by_cases hr : f.rep = true
  · simp only [if_pos hr, List.append_assoc]
  · by_cases hk : f.kind = 17
    · obtain ⟨x, hx, rx⟩ := fits_sub hu hk (by simpa using hr)
      obtain ⟨y, hy, ry⟩ := fits_sub hw hk (by simpa using hr)
      obtain ⟨z, hz, rz⟩ := fits_sub hv hk (by simpa using hr)
      simp only [if_neg hr, if_pos hk, hx, hy, hz]
      simp [hJ x y z rx ry rz]
    · simp only [if_neg hr, if_neg hk]
theorem join_assoc (s : List Mes) : ∀ (d : Nat) (root : Int) (x y z : M d), rightB s d root x = true → rightB s d root y = true → rightB s d root z = true → joinM s d root (joinM s d root x y) z = joinM s d root x (joinM s d root y z)
  | 0, _, x, _, _, _, _, _ => x.elim
  | d + 1, root, x, y, z, hx, hy, hz => by
    obtain ⟨ox, rx⟩ := right_vals2 hx
    obtain ⟨oy, ry⟩ := right_vals2 hy
    obtain ⟨oz, rz⟩ := right_vals2 hz
    have key := joinV_assoc (g := fun w v => bothV (joinM s d) ((s.getD root.toNat .zero).fields.getD (fieldAt (s.getD root.toNat .zero).fields v.num).toNat .zero) w v) (fun _ _ => bothV_num _ _ _ _) rx ry rz (fun u hu w hw v hv e1 e2 => by
      obtain ⟨-, -, -, fu⟩ := ox.at' u hu
      obtain ⟨-, -, -, fw⟩ := oy.at' w hw
      obtain ⟨-, -, -, fv⟩ := oz.at' v hv
      unfold qOf at fu fw fv
      rw [e1, e2] at fu
      rw [e2] at fw
      simp only [bothV_num, e2]
      exact bothV_assoc fu fw fv fun a b c ha hb hc => join_assoc s d _ a b c ha hb hc)
    show (⟨joinV _ (joinV _ (M.vals x) (M.vals y)) (M.vals z), (M.unk x ++ M.unk y) ++ M.unk z⟩ : Msgd (M d)) = ⟨joinV _ (M.vals x) (joinV _ (M.vals y) (M.vals z)), M.unk x ++ (M.unk y ++ M.unk z)⟩
    rw [key, List.append_assoc]
/-- the meaning of no bytes -/
def emptyM (d : Nat) : M (d + 1) := (⟨[], []⟩ : Msgd (M d))
theorem join_empty_r (s : List Mes) (d : Nat) (root : Int) (x : M (d + 1)) : joinM s (d + 1) root x (emptyM d) = x := by
  show (⟨M.vals x, M.unk x ++ []⟩ : Msgd (M d)) = x
  rw [List.append_nil]; rfl
theorem join_empty_l (s : List Mes) (d : Nat) (root : Int) (x : M (d + 1)) (hx : rightB s (d + 1) root x = true) : joinM s (d + 1) root (emptyM d) x = x := by
  obtain ⟨-, rx⟩ := right_vals2 hx
  have key : joinV (fun w v => bothV (joinM s d) ((s.getD root.toNat .zero).fields.getD (fieldAt (s.getD root.toNat .zero).fields v.num).toNat .zero) w v) [] (M.vals x) = M.vals x := by
    refine rise_ext (joinV_rise _ List.Pairwise.nil) rx fun n => ?_
    rw [joinV_get (fun _ _ => bothV_num _ _ _ _) List.Pairwise.nil rx]
    cases h : getV (M.vals x) n with
    | none => rfl
    | some v => exact congrArg some (withV_none rfl)
  show (⟨joinV _ [] (M.vals x), [] ++ M.unk x⟩ : Msgd (M d)) = x
  rw [key]; rfl
theorem right_empty {s : List Mes} {d : Nat} {root : Int} (h : 0 ≤ root ∧ root < s.length) : rightB s (d + 1) root (emptyM d) = true := by
  unfold rightB
  rw [if_neg (by omega)]; rfl
/-! Parts. -/
theorem flatV_rise {α : Type} {h : Val α → List (Val α)} (hh : ∀ v, h v = [] ∨ ∃ u, h v = [u] ∧ u.num = v.num) : ∀ {l : List (Val α)}, RiseV l → RiseV (l.flatMap h)
  | [], _ => by simp [RiseV]
  | x :: r, hr => by
    obtain ⟨h1, h2⟩ := hr.tail
    have ih := flatV_rise hh h1
    rw [List.flatMap_cons]
    rcases hh x with e | ⟨u, e, en⟩
    · rw [e]; exact ih
    · rw [e]
      refine List.pairwise_cons.2 ⟨fun y hy => ?_, ih⟩
      obtain ⟨z, hz, hyz⟩ := List.mem_flatMap.1 hy
      rcases hh z with e2 | ⟨u2, e2, en2⟩
      · rw [e2] at hyz; simp at hyz
      · rw [e2] at hyz
        simp at hyz
        subst hyz
        have := h2 z hz
        omega
theorem flatV_get {α : Type} {h : Val α → List (Val α)} (hh : ∀ v, h v = [] ∨ ∃ u, h v = [u] ∧ u.num = v.num) : ∀ {l : List (Val α)}, RiseV l → ∀ n, getV (l.flatMap h) n = (getV l n).bind fun v => (h v).head?
  | [], _, _ => rfl
  | x :: r, hr, n => by
    obtain ⟨h1, h2⟩ := hr.tail
    have ih := flatV_get hh h1 n
    rw [List.flatMap_cons, getV_cons]
    rcases hh x with e | ⟨u, e, en⟩
    · rw [e, List.nil_append, ih]
      by_cases hx : x.num = n
      · rw [if_pos hx, getV_low (fun y hy => by have := h2 y hy; omega)]
        simp [e]
      · rw [if_neg hx]
    · rw [e]
      show getV (u :: r.flatMap h) n = _
      rw [getV_cons, en, ih]
      by_cases hx : x.num = n
      · rw [if_pos hx, if_pos hx]; simp [e]
      · rw [if_neg hx, if_neg hx]
theorem pval_one {α : Type} (sub : Int → List (List Int) → α → α) (fs : List Fld) (keep : Bool) (ws : List (List Int)) (v : Val α) : pval sub fs keep ws v = [] ∨ ∃ u, pval sub fs keep ws v = [u] ∧ u.num = v.num := by
  unfold pval
  split
  · exact .inr ⟨_, rfl, rfl⟩
  · split
    · exact .inr ⟨_, rfl, rfl⟩
    · exact .inl rfl
theorem part_join (s : List Mes) : ∀ (d : Nat) (root : Int) (ws : List (List Int)) (x : M d), rightB s d root x = true → joinM s d root (partM s true d root.toNat ws x) (partM s false d root.toNat ws x) = x
  | 0, _, _, x, _ => x.elim
  | d + 1, root, ws, x, hx => by
    obtain ⟨ox, rx⟩ := right_vals2 hx
    have hp := fun keep => flatV_rise (pval_one (fun o u y => partM s keep d o.toNat u y) (s.getD root.toNat .zero).fields keep ws) rx
    have key : joinV (fun w v => bothV (joinM s d) ((s.getD root.toNat .zero).fields.getD (fieldAt (s.getD root.toNat .zero).fields v.num).toNat .zero) w v)
        ((M.vals x).flatMap (pval (fun o u y => partM s true d o.toNat u y) (s.getD root.toNat .zero).fields true ws)) ((M.vals x).flatMap (pval (fun o u y => partM s false d o.toNat u y) (s.getD root.toNat .zero).fields false ws)) = M.vals x := by
      refine rise_ext (joinV_rise _ (hp true)) rx fun n => ?_
      rw [joinV_get (fun _ _ => bothV_num _ _ _ _) (hp true) (hp false), flatV_get (pval_one _ _ _ _) rx, flatV_get (pval_one _ _ _ _) rx]
      cases hn : getV (M.vals x) n with
      | none => rfl
      | some v =>
        obtain ⟨hvn, hvm⟩ := getV_num hn
        subst hvn
        obtain ⟨-, -, -, fv⟩ := ox.at' v hvm
        unfold qOf at fv
        simp only [Option.bind_some]
        by_cases hc : ws.any (wholeW v.num) = false ∧ underW ws v.num ≠ [] ∧ ((s.getD root.toNat .zero).fields.getD (fieldAt (s.getD root.toNat .zero).fields v.num).toNat .zero).kind = 17 ∧ ((s.getD root.toNat .zero).fields.getD (fieldAt (s.getD root.toNat .zero).fields v.num).toNat .zero).rep = false
        · obtain ⟨y, hy, ry⟩ := fits_sub fv hc.2.2.1 hc.2.2.2
          have hwt : v.words = [] ∧ v.texts = [] := by
            obtain ⟨-, -, h2⟩ := fits_cases fv
            rcases h2 with ⟨hk, -⟩ | ⟨-, h1, h2, -⟩ | ⟨-, hk, -⟩
            · rw [hc.2.2.1] at hk; exact absurd hk (by decide)
            · exact ⟨h1, h2⟩
            · exact absurd hc.2.2.1 hk
          have e : ∀ keep, pval (fun o u y => partM s keep d o.toNat u y) (s.getD root.toNat .zero).fields keep ws v = [⟨v.num, [], [], [partM s keep d ((s.getD root.toNat .zero).fields.getD (fieldAt (s.getD root.toNat .zero).fields v.num).toNat .zero).of.toNat (underW ws v.num) y]⟩] := fun keep => by
            unfold pval
            rw [if_pos hc, hy]; rfl
          rw [e false]
          show some (withV _ _ _) = some v
          rw [withV_some (w := ⟨v.num, [], [], [partM s true d ((s.getD root.toNat .zero).fields.getD (fieldAt (s.getD root.toNat .zero).fields v.num).toNat .zero).of.toNat (underW ws v.num) y]⟩) (by
            show getV _ v.num = _
            rw [flatV_get (pval_one _ _ _ _) rx, hn]
            show (pval _ _ true ws v).head? = _
            rw [e true]; rfl)]
          unfold bothV
          rw [if_neg (by rw [hc.2.2.2]; simp), if_pos hc.2.2.1]
          show some (⟨v.num, [], [], [joinM s d _ _ _]⟩ : Val (M d)) = some v
          rw [part_join s d _ _ y ry]
          obtain ⟨h1, h2⟩ := hwt
          cases v
          simp only at h1 h2 hy
          subst h1 h2 hy
          rfl
        · have e : ∀ keep, pval (fun o u y => partM s keep d o.toNat u y) (s.getD root.toNat .zero).fields keep ws v = if ws.any (wholeW v.num) = keep then [v] else [] := fun keep => by
            unfold pval
            rw [if_neg hc]
          rw [e false, e true]
          cases hw : ws.any (wholeW v.num) with
          | true => rfl
          | false =>
            show some (withV _ _ v) = some v
            rw [withV_none]
            rw [flatV_get (pval_one _ _ _ _) rx, hn]
            show (pval _ _ true ws v).head? = _
            rw [e true, hw]; rfl
    exact congrArg (fun l => (⟨l, M.unk x⟩ : Msgd (M d))) key
theorem right_part (s : List Mes) (keep : Bool) : ∀ (d : Nat) (root : Int) (ws : List (List Int)) (x : M d), rightB s d root x = true → rightB s d root (partM s keep d root.toNat ws x) = true
  | 0, _, _, x, _ => x.elim
  | d + 1, root, ws, x, hx => by
    have hx' := hx
    unfold rightB at hx'
    by_cases h0 : root < 0 ∨ (s.length : Int) ≤ root
    · rw [if_pos h0] at hx'; cases hx'
    rw [if_neg h0, Bool.and_eq_true] at hx'
    obtain ⟨ox, px⟩ := valsOk_of hx'.1
    unfold rightB
    rw [if_neg h0, Bool.and_eq_true]
    refine ⟨?_, ?_⟩
    · show valsB _ _ ((M.vals x).flatMap (pval (fun o u y => partM s keep d o.toNat u y) (s.getD root.toNat .zero).fields keep ws)) 0 = true
      refine valsB_of (flatV_rise (pval_one _ _ _ _) ox.rise) fun u hu => ?_
      obtain ⟨v, hv, hu⟩ := List.mem_flatMap.1 hu
      obtain ⟨q0, -, -, q3⟩ := ox.at' v hv
      unfold qOf at q3
      unfold pval at hu
      split at hu
      · rename_i hc
        simp only [List.mem_singleton] at hu
        subst hu
        obtain ⟨y, hy, ry⟩ := fits_sub q3 hc.2.2.1 hc.2.2.2
        refine ⟨px v hv, q0, ?_⟩
        rw [hy]
        refine fits_of (by simp [many]) (fun _ => by simp [many]) (.inr (.inl ⟨hc.2.2.1, rfl, rfl, fun z hz => ?_⟩))
        simp at hz
        subst hz
        exact right_part s keep d _ _ y ry
      · split at hu
        · simp only [List.mem_singleton] at hu
          subst hu
          exact ⟨px u hv, q0, q3⟩
        · simp at hu
    · show (if keep = true then [] else M.unk x).all _ = true
      cases keep
      · exact hx'.2
      · rfl
/-! Each meaning is as itself. -/
theorem all2_self {α : Type} {S : α → α → Bool} : ∀ (l : List α), (∀ x ∈ l, S x x = true) → all2 S l l = true
  | [], _ => rfl
  | x :: r, h => by
    unfold all2
    rw [h x (by simp), all2_self r fun y hy => h y (by simp [hy])]; rfl
theorem same_self : ∀ (d : Nat) (x : M d), sameB d d x x = true
  | 0, x => x.elim
  | d + 1, x => by
    unfold sameB
    rw [Bool.and_eq_true]
    refine ⟨by simp, all2_self _ fun v _ => ?_⟩
    unfold sameV
    rw [Bool.and_eq_true]
    exact ⟨by simp, all2_self _ fun y _ => same_self d y⟩
end Go.Proofs.YtaefpjecalnbcaaGreat
namespace Go.Proofs.YtaefpjecalnbcaaGreat
/-- a meaning without unknown records -/
def plainM : (d : Nat) → M d → M d
  | 0, x => x
  | d + 1, x => (⟨(M.vals x).map fun v => ⟨v.num, v.words, v.texts, v.subs.map (plainM d)⟩, []⟩ : Msgd (M d))
end Go.Proofs.YtaefpjecalnbcaaGreat
namespace Go.Proofs.YtaefpjecalnbcaaGreat
open Go.RowKit
def WordsQ (lo hi : Nat) (w : World) (v : Value) (l : List Nat) : Prop := WordsOwn w lo v l ∧ (∀ b, v.ownBlock = some b → b < hi) ∧ l.length ≤ 1099511627776 ∧ ∀ x ∈ l, x < 2 ^ 64
def StrsQ (lo hi : Nat) (w : World) (v : Value) (l : List (List UInt8)) : Prop := StrsOwn w lo v l ∧ (∀ b, v.ownBlock = some b → b < hi) ∧ l.length ≤ 1099511627776 ∧ ∀ t ∈ l, t.length ≤ 140737488355328
def SubsQ {α : Type} (P : Nat → World → Value → α → Prop) (lo hi : Nat) (w : World) (v : Value) (l : List α) : Prop :=
  l.length ≤ 140737488355328 ∧ ((v = .slice none 0 0 ∧ l = []) ∨ ∃ g cap cur, v = .slice (some ⟨g, 0, none⟩) l.length cap ∧ (lo ≤ g ∧ g < hi) ∧ w.heap[g]? = some (.cells cur 27 (0, 0)) ∧ l.length ≤ cap ∧ cap ≤ maxLen ∧ cur.size = cap * 2 ∧
    ∀ (i : Nat) (x : α), l[i]? = some x → ∃ c1 c2, cur[i * 2]? = some c1 ∧ cur[i * 2 + 1]? = some c2 ∧ P i w (.agg #[c1, c2]) x)
def ValQ {α : Type} (P : Nat → World → Value → α → Prop) (lo hi : Nat) (w : World) (wv tv sv : Value) (x : Val α) : Prop :=
  (-9223372036854775808 ≤ x.num ∧ x.num ≤ 9223372036854775807) ∧ WordsQ lo hi w wv x.words ∧ StrsQ lo hi w tv x.texts ∧ SubsQ P lo hi w sv x.subs
def ValsQ {α : Type} (P : Nat → World → Value → Value → Value → Val α → Prop) (lo hi : Nat) (w : World) (v : Value) (l : List (Val α)) : Prop :=
  l.length ≤ 140737488355328 ∧ ((v = .slice none 0 0 ∧ l = []) ∨ ∃ g cap cur, v = .slice (some ⟨g, 0, none⟩) l.length cap ∧ (lo ≤ g ∧ g < hi) ∧ w.heap[g]? = some (.cells cur 67 (0, 0)) ∧ l.length ≤ cap ∧ cap ≤ maxLen ∧ cur.size = cap * 4 ∧
    ∀ (i : Nat) (x : Val α), l[i]? = some x → ∃ wv tv sv, cur[i * 4]? = some (.int .i64 x.num) ∧ cur[i * 4 + 1]? = some wv ∧ cur[i * 4 + 2]? = some tv ∧ cur[i * 4 + 3]? = some sv ∧ P i w wv tv sv x)
def MsgQ (U : Nat → Nat → World → Value → List (List UInt8) → Prop) (lo hi : Nat) : (d : Nat) → World → Value → M d → Prop
  | 0, _, _, _ => False
  | d + 1, w, v, x => ∃ vv uv, v = .agg #[vv, uv] ∧ U lo hi w uv (M.unk x) ∧ ValsQ (fun _ w wv tv sv y => ValQ (fun _ w u z => MsgQ U lo hi d w u z) lo hi w wv tv sv y) lo hi w vv (M.vals x)
def UAny (_ _ : Nat) (_ : World) (v : Value) (_ : List (List UInt8)) : Prop := ∃ a n c, v = .slice a n c
def UNil (_ _ : Nat) (_ : World) (v : Value) (_ : List (List UInt8)) : Prop := v = .slice none 0 0
/-- what a step may do to worlds: below lo nothing; of what was, only messages' unknown records fall away -/
structure NilW (lo : Nat) (w w' : World) : Prop where
  os : w'.os = w.os
  tape : w'.tape = w.tape
  output : w'.output = w.output
  size : w.heap.size ≤ w'.heap.size
  low : ∀ b : Nat, b < lo → w'.heap[b]? = w.heap[b]?
  other : ∀ (b : Nat) (o : Obj), w.heap[b]? = some o → (∀ cur : Array Value, o ≠ Obj.cells cur 27 (0, 0)) → w'.heap[b]? = some o
  msg : ∀ (b : Nat) (cur : Array Value), w.heap[b]? = some (Obj.cells cur 27 (0, 0)) → ∃ cur' : Array Value, w'.heap[b]? = some (Obj.cells cur' 27 (0, 0)) ∧ cur'.size = cur.size ∧ ∀ j u, cur[j]? = some u → cur'[j]? = some u ∨ (j % 2 = 1 ∧ cur'[j]? = some (.slice none 0 0))
theorem NilW.of_below {lo : Nat} {w w' : World} (h : Below w.heap.size w w') (hl : lo ≤ w.heap.size) : NilW lo w w' :=
  ⟨h.os, h.tape, h.output, h.size, fun b hb => h.block b (by omega), fun b o ho _ => (h.block b (Array.getElem?_eq_some_iff.1 ho).1).trans ho,
    fun b cur hc => ⟨cur, (h.block b (Array.getElem?_eq_some_iff.1 hc).1).trans hc, rfl, fun _ _ hu => .inl hu⟩⟩
theorem NilW.refl (lo : Nat) (w : World) : NilW lo w w := ⟨rfl, rfl, rfl, Nat.le_refl _, fun _ _ => rfl, fun _ _ h _ => h, fun _ cur h => ⟨cur, h, rfl, fun _ _ hu => .inl hu⟩⟩
theorem NilW.trans {lo : Nat} {w w1 w2 : World} (h : NilW lo w w1) (g : NilW lo w1 w2) : NilW lo w w2 := by
  refine ⟨g.os.trans h.os, g.tape.trans h.tape, g.output.trans h.output, Nat.le_trans h.size g.size, fun b hb => (g.low b hb).trans (h.low b hb), fun b o ho hn => g.other b o (h.other b o ho hn) hn, fun b cur hc => ?_⟩
  obtain ⟨c1, h1, h2, h3⟩ := h.msg b cur hc
  obtain ⟨c2, g1, g2, g3⟩ := g.msg b c1 h1
  refine ⟨c2, g1, g2.trans h2, fun j u hu => ?_⟩
  rcases h3 j u hu with h4 | ⟨h4, h5⟩
  · exact g3 j u h4
  · rcases g3 j _ h5 with h6 | ⟨-, h6⟩ <;> exact .inr ⟨h4, h6⟩
theorem NilW.to_below {lo n : Nat} {w w' : World} (h : NilW lo w w') (hn : n ≤ lo) : Below n w w' := ⟨h.os, h.tape, h.output, h.size, fun b hb => h.low b (by omega)⟩
theorem NilW.drew {lo : Nat} {w w' : World} (h : NilW lo w w') : NilW lo w w'.drew := ⟨h.os, h.tape, h.output, h.size, h.low, h.other, h.msg⟩
/-- a store into what is new -/
theorem NilW.set_new {lo : Nat} {w w' : World} (h : NilW lo w w') (hl : lo ≤ w.heap.size) (a : Addr) (v : Value) (ha : w.heap.size ≤ a.block) : NilW lo w (w'.setCell a v) := by
  refine ⟨h.os, h.tape, h.output, Nat.le_trans h.size (by show w'.heap.size ≤ (w'.heap.modify a.block _).size; rw [Array.size_modify]; exact Nat.le_refl _), fun b hb => ?_, fun b o ho hn => ?_, fun b cur hc => ?_⟩
  · rw [Below.heap_setCell w' a v b (by omega)]; exact h.low b hb
  · have := (Array.getElem?_eq_some_iff.1 ho).1
    rw [Below.heap_setCell w' a v b (by omega)]; exact h.other b o ho hn
  · have := (Array.getElem?_eq_some_iff.1 hc).1
    rw [Below.heap_setCell w' a v b (by omega)]; exact h.msg b cur hc
/-- the store of an empty list of unknown records -/
theorem NilW.set_nil {lo : Nat} {w w' : World} (h : NilW lo w w') (g j : Nat) (cur : Array Value) (hg : w'.heap[g]? = some (.cells cur 27 (0, 0))) (hl : lo ≤ g) (hj : j % 2 = 1) : NilW lo w (w'.setCell ⟨g, j, none⟩ (.slice none 0 0)) := by
  refine h.trans ⟨rfl, rfl, rfl, by show w'.heap.size ≤ (w'.heap.modify g _).size; rw [Array.size_modify]; exact Nat.le_refl _, fun b hb => Below.heap_setCell w' _ _ b (by show b ≠ g; omega), fun b o ho hn => ?_, fun b c hc => ?_⟩
  · by_cases hb : b = g
    · subst hb; rw [hg] at ho; cases ho; exact absurd rfl (hn cur)
    · rw [Below.heap_setCell w' _ _ b hb]; exact ho
  · by_cases hb : b = g
    · subst hb
      rw [hg] at hc
      cases hc
      obtain ⟨hlt, hk⟩ := Array.getElem?_eq_some_iff.1 hg
      refine ⟨cur.setIfInBounds j (.slice none 0 0), ?_, by simp, fun i u hu => ?_⟩
      · show (w'.heap.modify b _)[b]? = _
        rw [Array.getElem?_eq_getElem (by rw [Array.size_modify]; exact hlt), Array.getElem_modify_self, hk]
        rfl
      · by_cases hi : i = j
        · subst hi
          have := (Array.getElem?_eq_some_iff.1 hu).1
          exact .inr ⟨hj, by rw [Array.getElem?_setIfInBounds_self_of_lt this]⟩
        · exact .inl (by rw [Array.getElem?_setIfInBounds_ne (by omega)]; exact hu)
    · exact ⟨c, by rw [Below.heap_setCell w' _ _ b hb]; exact hc, rfl, fun _ _ hu => .inl hu⟩
/-- the store of what is there -/
theorem NilW.set_same {lo : Nat} {w w' : World} (h : NilW lo w w') (g j : Nat) (cur : Array Value) (v : Value) (hg : w'.heap[g]? = some (.cells cur 27 (0, 0))) (hl : lo ≤ g) (hj : cur[j]? = some v) : NilW lo w (w'.setCell ⟨g, j, none⟩ v) ∧ (w'.setCell ⟨g, j, none⟩ v).heap[g]? = some (.cells cur 27 (0, 0)) := by
  have he : (w'.setCell ⟨g, j, none⟩ v).heap[g]? = some (.cells cur 27 (0, 0)) := by
    obtain ⟨hlt, hk⟩ := Array.getElem?_eq_some_iff.1 hg
    show (w'.heap.modify g _)[g]? = _
    rw [Array.getElem?_eq_getElem (by rw [Array.size_modify]; exact hlt), Array.getElem_modify_self, hk]
    obtain ⟨hjl, hjv⟩ := Array.getElem?_eq_some_iff.1 hj
    have : cur.setIfInBounds j v = cur := by
      apply Array.ext
      · simp
      · intro i h1 h2
        by_cases hi : i = j
        · subst hi; simp [hjv]
        · rw [Array.getElem_setIfInBounds_ne h2 (by omega)]
    show some (Obj.cells (if (none : Option _).isSome then cur else cur.setIfInBounds j v) _ _) = _
    rw [if_neg (by simp), this]
  have hall : ∀ b, (w'.setCell ⟨g, j, none⟩ v).heap[b]? = w'.heap[b]? := fun b => by
    by_cases hb : b = g
    · subst hb; rw [he, hg]
    · exact Below.heap_setCell w' _ _ b hb
  exact ⟨h.trans ⟨rfl, rfl, rfl, by show w'.heap.size ≤ (w'.heap.modify g _).size; rw [Array.size_modify]; exact Nat.le_refl _, fun b _ => hall b, fun b o ho _ => (hall b).trans ho, fun b c hc => ⟨c, (hall b).trans hc, rfl, fun _ _ hu => .inl hu⟩⟩, he⟩
theorem NilW.blk {lo b : Nat} {w w' : World} {cs : List Value} {T : TypeId} (h : NilW lo w w') (hb : Blk w b cs T) (hT : T ≠ 27) : Blk w' b cs T :=
  h.other b _ hb (fun cur e => hT (by injection e))
theorem NilW.blk_nil {lo b : Nat} {w w' : World} {v : Value} (h : NilW lo w w') (hb : Blk w b [v, .slice none 0 0] 27) : Blk w' b [v, .slice none 0 0] 27 := by
  obtain ⟨cur, h1, h2, h3⟩ := h.msg b _ hb
  have h0 := h3 0 v rfl
  have h1' := h3 1 (.slice none 0 0) rfl
  have e0 : cur[0]? = some v := by rcases h0 with h | ⟨h, -⟩; exact h; exact absurd h (by decide)
  have e1 : cur[1]? = some (.slice none 0 0) := by rcases h1' with h | ⟨-, h⟩ <;> exact h
  have hc : cur = #[v, .slice none 0 0] := by
    apply Array.ext
    · rw [h2]
    · intro i hi hj
      have : i = 0 ∨ i = 1 := by simp at hj; omega
      rcases this with rfl | rfl
      · rw [Array.getElem?_eq_getElem hi] at e0; simpa using e0
      · rw [Array.getElem?_eq_getElem hi] at e1; simpa using e1
  unfold Blk
  rw [h1, hc]
/-! What stands. -/
theorem own_nilw {lo k n : Nat} {T : TypeId} {w w' : World} {v : Value} {xs : List Value} (h : w.ownsRow lo T k v n xs) (hT : T ≠ 27) (hw : NilW lo w w') : w'.ownsRow lo T k v n xs :=
  row_keep h fun b cur _ hc => (hw.other b _ hc (fun c e => hT (by injection e))).trans hc.symm
theorem WordsQ.nil {lo hi : Nat} {w w' : World} {v : Value} {l : List Nat} (h : WordsQ lo hi w v l) (hw : NilW lo w w') : WordsQ lo hi w' v l := ⟨own_nilw h.1 (by decide) hw, h.2⟩
theorem StrsQ.nil {lo hi : Nat} {w w' : World} {v : Value} {l : List (List UInt8)} (h : StrsQ lo hi w v l) (hw : NilW lo w w') : StrsQ lo hi w' v l := ⟨own_nilw h.1 (by decide) hw, h.2⟩
theorem SubsQ.nil {α : Type} {P P' : Nat → World → Value → α → Prop} {lo hi : Nat} {w w' : World} {v : Value} {l : List α} (h : SubsQ P lo hi w v l) (hw : NilW lo w w')
    (hP : ∀ i a b x, l[i]? = some x → P i w (.agg #[a, b]) x → P' i w' (.agg #[a, b]) x ∧ P' i w' (.agg #[a, .slice none 0 0]) x) : SubsQ P' lo hi w' v l := by
  refine ⟨h.1, ?_⟩
  rcases h.2 with h2 | ⟨g, cap, cur, hv, hb, hg, hnc, hcm, hcs, hall⟩
  · exact .inl h2
  · obtain ⟨cur', h1, h2, h3⟩ := hw.msg g cur hg
    refine .inr ⟨g, cap, cur', hv, hb, h1, hnc, hcm, h2.trans hcs, fun i x hx => ?_⟩
    obtain ⟨c1, c2, e1, e2, hp⟩ := hall i x hx
    have k1 : cur'[i * 2]? = some c1 := by
      rcases h3 _ _ e1 with h | ⟨h, -⟩
      · exact h
      · omega
    have k2 := h3 _ _ e2
    obtain ⟨q1, q2⟩ := hP i c1 c2 x hx hp
    rcases k2 with k2 | ⟨-, k2⟩
    · exact ⟨c1, c2, k1, k2, q1⟩
    · exact ⟨c1, _, k1, k2, q2⟩
theorem ValsQ.nil {α : Type} {P P' : Nat → World → Value → Value → Value → Val α → Prop} {lo hi : Nat} {w w' : World} {v : Value} {l : List (Val α)} (h : ValsQ P lo hi w v l) (hw : NilW lo w w')
    (hP : ∀ i wv tv sv x, l[i]? = some x → P i w wv tv sv x → P' i w' wv tv sv x) : ValsQ P' lo hi w' v l := by
  refine ⟨h.1, ?_⟩
  rcases h.2 with h2 | ⟨g, cap, cur, hv, hb, hg, hnc, hcm, hcs, hall⟩
  · exact .inl h2
  · refine .inr ⟨g, cap, cur, hv, hb, hw.other g _ hg (fun c e => absurd (show (67 : TypeId) = 27 by injection e) (by decide)), hnc, hcm, hcs, fun i x hx => ?_⟩
    obtain ⟨wv, tv, sv, e0, e1, e2, e3, hp⟩ := hall i x hx
    exact ⟨wv, tv, sv, e0, e1, e2, e3, hP i wv tv sv x hx hp⟩
theorem MsgQ.nil {U U' : Nat → Nat → World → Value → List (List UInt8) → Prop} {lo hi : Nat} (hU : ∀ w w' v l, U lo hi w v l → U' lo hi w' v l ∧ U' lo hi w' (.slice none 0 0) l) : ∀ (d : Nat) (w w' : World) (a b : Value) (x : M d), MsgQ U lo hi d w (.agg #[a, b]) x → NilW lo w w' → MsgQ U' lo hi d w' (.agg #[a, b]) x ∧ MsgQ U' lo hi d w' (.agg #[a, .slice none 0 0]) x
  | 0, _, _, _, _, _, h, _ => h.elim
  | d + 1, w, w', a, b, x, h, hw => by
    obtain ⟨vv, uv, e, hu, hv⟩ := h
    obtain ⟨rfl, rfl⟩ : a = vv ∧ b = uv := by cases e; exact ⟨rfl, rfl⟩
    have hV : ValsQ (fun _ w wv tv sv y => ValQ (fun _ w u z => MsgQ U' lo hi d w u z) lo hi w wv tv sv y) lo hi w' a (M.vals x) := hv.nil hw fun i wv tv sv y _ hy =>
      ⟨hy.1, hy.2.1.nil hw, hy.2.2.1.nil hw, hy.2.2.2.nil hw fun j a b z _ hz => MsgQ.nil hU d w w' a b z hz hw⟩
    exact ⟨⟨_, _, rfl, (hU w w' _ _ hu).1, hV⟩, ⟨_, _, rfl, (hU w w' _ _ hu).2, hV⟩⟩
theorem uany_nil (lo hi : Nat) (w w' : World) (v : Value) (l : List (List UInt8)) (h : UAny lo hi w v l) : UAny lo hi w' v l ∧ UAny lo hi w' (.slice none 0 0) l := ⟨h, _, _, _, rfl⟩
theorem unil_nil (lo hi : Nat) (w w' : World) (v : Value) (l : List (List UInt8)) (h : UNil lo hi w v l) : UNil lo hi w' v l ∧ UNil lo hi w' (.slice none 0 0) l := ⟨h, rfl⟩
/-! Worlds that agree where it lies. -/
theorem own_agree {lo hi k n : Nat} {T : TypeId} {w w' : World} {v : Value} {xs : List Value} (h : w.ownsRow lo T k v n xs) (hh : ∀ b, v.ownBlock = some b → b < hi) (hw : ∀ b, lo ≤ b → b < hi → w'.heap[b]? = w.heap[b]?) : w'.ownsRow lo T k v n xs := by
  refine ⟨h.1, ?_⟩
  rcases h.2 with h2 | ⟨g, cap, cur, rfl, hb, hg, hnc, hcm, hcs, ht⟩
  · exact .inl h2
  · exact .inr ⟨g, cap, cur, rfl, hb, (hw g hb (hh g rfl)).trans hg, hnc, hcm, hcs, ht⟩
theorem WordsQ.agree {lo hi : Nat} {w w' : World} {v : Value} {l : List Nat} (h : WordsQ lo hi w v l) (hw : ∀ b, lo ≤ b → b < hi → w'.heap[b]? = w.heap[b]?) : WordsQ lo hi w' v l := ⟨own_agree h.1 h.2.1 hw, h.2⟩
theorem StrsQ.agree {lo hi : Nat} {w w' : World} {v : Value} {l : List (List UInt8)} (h : StrsQ lo hi w v l) (hw : ∀ b, lo ≤ b → b < hi → w'.heap[b]? = w.heap[b]?) : StrsQ lo hi w' v l := ⟨own_agree h.1 h.2.1 hw, h.2⟩
theorem SubsQ.agree {α : Type} {P P' : Nat → World → Value → α → Prop} {lo hi : Nat} {w w' : World} {v : Value} {l : List α} (h : SubsQ P lo hi w v l) (hw : ∀ b, lo ≤ b → b < hi → w'.heap[b]? = w.heap[b]?)
    (hP : ∀ i a b x, l[i]? = some x → P i w (.agg #[a, b]) x → P' i w' (.agg #[a, b]) x) : SubsQ P' lo hi w' v l := by
  refine ⟨h.1, ?_⟩
  rcases h.2 with h2 | ⟨g, cap, cur, hv, hb, hg, hnc, hcm, hcs, hall⟩
  · exact .inl h2
  · refine .inr ⟨g, cap, cur, hv, hb, (hw g hb.1 hb.2).trans hg, hnc, hcm, hcs, fun i x hx => ?_⟩
    obtain ⟨c1, c2, e1, e2, hp⟩ := hall i x hx
    exact ⟨c1, c2, e1, e2, hP i c1 c2 x hx hp⟩
theorem ValsQ.agree {α : Type} {P P' : Nat → World → Value → Value → Value → Val α → Prop} {lo hi : Nat} {w w' : World} {v : Value} {l : List (Val α)} (h : ValsQ P lo hi w v l) (hw : ∀ b, lo ≤ b → b < hi → w'.heap[b]? = w.heap[b]?)
    (hP : ∀ i wv tv sv x, l[i]? = some x → P i w wv tv sv x → P' i w' wv tv sv x) : ValsQ P' lo hi w' v l := by
  refine ⟨h.1, ?_⟩
  rcases h.2 with h2 | ⟨g, cap, cur, hv, hb, hg, hnc, hcm, hcs, hall⟩
  · exact .inl h2
  · refine .inr ⟨g, cap, cur, hv, hb, (hw g hb.1 hb.2).trans hg, hnc, hcm, hcs, fun i x hx => ?_⟩
    obtain ⟨wv, tv, sv, e0, e1, e2, e3, hp⟩ := hall i x hx
    exact ⟨wv, tv, sv, e0, e1, e2, e3, hP i wv tv sv x hx hp⟩
theorem MsgQ.agree {U : Nat → Nat → World → Value → List (List UInt8) → Prop} {lo hi : Nat} {w w' : World} (hw : ∀ b, lo ≤ b → b < hi → w'.heap[b]? = w.heap[b]?) (hU : ∀ v l, U lo hi w v l → U lo hi w' v l) : ∀ (d : Nat) (v : Value) (x : M d), MsgQ U lo hi d w v x → MsgQ U lo hi d w' v x
  | 0, _, _, h => h.elim
  | d + 1, v, x, h => by
    obtain ⟨vv, uv, e, hu, hv⟩ := h
    exact ⟨vv, uv, e, hU _ _ hu, hv.agree hw fun i wv tv sv y _ hy => ⟨hy.1, hy.2.1.agree hw, hy.2.2.1.agree hw, hy.2.2.2.agree hw fun j a b z _ hz => MsgQ.agree hw hU d _ z hz⟩⟩
/-! As it reads. -/
theorem chunk_flat {α : Type} (k : Nat) (L : List α) : ∀ n, n * k ≤ L.length → ((List.range n).map fun i => (L.drop (i * k)).take k).flatten = L.take (n * k)
  | 0, _ => by simp
  | n + 1, h => by
    have h1 := chunk_flat k L n (by rw [Nat.succ_mul] at h; omega)
    rw [List.range_succ, List.map_append, List.flatten_append, h1, Nat.succ_mul, List.take_add]
    simp
theorem rows_chunk {α : Type} {P : World → List Value → α → Prop} {k : Nat} {w : World} {g cap : Nat} {T : TypeId} {cur : Array Value} {l : List α} (hl : l.length ≤ 140737488355328) (hg : w.heap[g]? = some (.cells cur T (0, 0))) (hnc : l.length ≤ cap) (hcm : cap ≤ maxLen) (hcs : cur.size = cap * k)
    (hP : ∀ (i : Nat) (x : α), l[i]? = some x → P w ((cur.toList.drop (i * k)).take k) x) : RowsAt P k w (.slice (some ⟨g, 0, none⟩) l.length cap) l := by
  have hle : l.length * k ≤ cur.toList.length := by have : cur.toList.length = cur.size := rfl; rw [this, hcs]; exact Nat.mul_le_mul_right k hnc
  refine ⟨(List.range l.length).map fun i => (cur.toList.drop (i * k)).take k, by simp, fun r hr => ?_, ?_, fun i r x hr hx => ?_⟩
  · obtain ⟨i, hi, rfl⟩ := List.mem_map.1 hr
    have hi := List.mem_range.1 hi
    rw [List.length_take, List.length_drop]
    have : (i + 1) * k ≤ l.length * k := Nat.mul_le_mul_right k hi
    rw [Nat.succ_mul] at this
    omega
  · rw [chunk_flat k _ _ hle]
    refine ⟨by rw [List.length_take]; omega, hl, _, _, rfl, hnc, by unfold maxLen at hcm; omega, by simp, fun j u hu => ⟨g, 0, rfl, ?_⟩⟩
    rw [Nat.zero_add]
    unfold World.cell?
    rw [hg]
    rw [List.getElem?_take] at hu
    split at hu
    · simpa using hu
    · cases hu
  · have hi := (List.getElem?_eq_some_iff.1 hx).1
    rw [List.getElem?_map, List.getElem?_range hi] at hr
    cases hr
    exact hP i x hx
theorem chunk2 {cur : Array Value} {i : Nat} {a b : Value} (h1 : cur[i * 2]? = some a) (h2 : cur[i * 2 + 1]? = some b) : (cur.toList.drop (i * 2)).take 2 = [a, b] := by
  apply List.ext_getElem?
  intro j
  match j with
  | 0 => simpa [List.getElem?_take] using h1
  | 1 => simpa [List.getElem?_take] using h2
  | j + 2 => simp [List.getElem?_take]; omega
theorem chunk4 {cur : Array Value} {i : Nat} {a b c d : Value} (h0 : cur[i * 4]? = some a) (h1 : cur[i * 4 + 1]? = some b) (h2 : cur[i * 4 + 2]? = some c) (h3 : cur[i * 4 + 3]? = some d) : (cur.toList.drop (i * 4)).take 4 = [a, b, c, d] := by
  apply List.ext_getElem?
  intro j
  match j with
  | 0 => simpa [List.getElem?_take] using h0
  | 1 => simpa [List.getElem?_take] using h1
  | 2 => simpa [List.getElem?_take] using h2
  | 3 => simpa [List.getElem?_take] using h3
  | j + 4 => simp [List.getElem?_take]; omega
theorem rows_none {α : Type} (P : World → List Value → α → Prop) (k : Nat) (w : World) : RowsAt P k w (.slice none 0 0) [] :=
  ⟨[], rfl, by simp, ⟨by simp, by simp, none, 0, rfl, Nat.le_refl _, by omega, fun _ => rfl, fun j u hu => by simp at hu⟩, fun i r x h => by simp at h⟩
theorem rows_map {α β : Type} {P : World → List Value → α → Prop} {Q : World → List Value → β → Prop} {k : Nat} {w : World} {v : Value} {l : List α} (f : α → β) (h : RowsAt P k w v l) (hPQ : ∀ r x, P w r x → Q w r (f x)) : RowsAt Q k w v (l.map f) := by
  obtain ⟨rows, h1, h2, h3, h4⟩ := h
  refine ⟨rows, by simpa using h1, h2, by simpa using h3, fun i r x hr hx => ?_⟩
  rw [List.getElem?_map] at hx
  cases hl : l[i]? with
  | none => rw [hl] at hx; cases hx
  | some y => rw [hl] at hx; cases hx; exact hPQ _ _ (h4 i r y hr hl)
theorem SubsQ.rows {α : Type} {P : Nat → World → Value → α → Prop} {R : World → List Value → α → Prop} {lo hi : Nat} {w : World} {v : Value} {l : List α} (h : SubsQ P lo hi w v l) (hP : ∀ i a b x, P i w (.agg #[a, b]) x → R w [a, b] x) : RowsAt R 2 w v l := by
  rcases h.2 with ⟨rfl, rfl⟩ | ⟨g, cap, cur, rfl, hb, hg, hnc, hcm, hcs, hall⟩
  · exact rows_none _ _ _
  · refine rows_chunk h.1 hg hnc hcm hcs fun i x hx => ?_
    obtain ⟨c1, c2, e1, e2, hp⟩ := hall i x hx
    rw [chunk2 e1 e2]
    exact hP i c1 c2 x hp
theorem ValsQ.rows {α : Type} {P : Nat → World → Value → Value → Value → Val α → Prop} {R : World → List Value → Val α → Prop} {lo hi : Nat} {w : World} {v : Value} {l : List (Val α)} (h : ValsQ P lo hi w v l) (hP : ∀ i a b c x, P i w a b c x → R w [.int .i64 x.num, a, b, c] x) : RowsAt R 4 w v l := by
  rcases h.2 with ⟨rfl, rfl⟩ | ⟨g, cap, cur, rfl, hb, hg, hnc, hcm, hcs, hall⟩
  · exact rows_none _ _ _
  · refine rows_chunk h.1 hg hnc hcm hcs fun i x hx => ?_
    obtain ⟨wv, tv, sv, e0, e1, e2, e3, hp⟩ := hall i x hx
    rw [chunk4 e0 e1 e2 e3]
    exact hP i wv tv sv x hp
theorem WordsQ.at {lo hi : Nat} {w : World} {v : Value} {l : List Nat} (h : WordsQ lo hi w v l) : WordsAt w v l := ⟨row_seg h.1 (by have := h.2.2.1; omega), h.2.2.2⟩
theorem StrsQ.at {lo hi : Nat} {w : World} {v : Value} {l : List (List UInt8)} (h : StrsQ lo hi w v l) : StrsAt w v l := ⟨row_seg h.1 (by have := h.2.2.1; omega), h.2.2.2⟩
/-- without unknown records it reads as the plain meaning -/
theorem MsgQ.plain {lo hi : Nat} : ∀ (d : Nat) (w : World) (v : Value) (x : M d), MsgQ UNil lo hi d w v x → MsgAt d w v (plainM d x)
  | 0, _, _, _, h => h.elim
  | d + 1, w, v, x, h => by
    obtain ⟨vv, uv, rfl, rfl, hv⟩ := h
    refine ⟨vv, _, rfl, ?_, strs_none w⟩
    show ValsAt (MsgAt d) w vv ((M.vals x).map _)
    refine rows_map (P := fun w r (y : Val (M d)) => ∃ wv tv sv, r = [.int .i64 y.num, wv, tv, sv] ∧ ValQ (fun _ w u z => MsgQ UNil lo hi d w u z) lo hi w wv tv sv y) _ (hv.rows fun i a b c x hx => ⟨a, b, c, rfl, hx⟩) ?_
    rintro r y ⟨wv, tv, sv, rfl, h1, h2, h3, h4⟩
    refine ⟨wv, tv, sv, rfl, h1, h2.at, h3.at, ?_⟩
    show SubsAt (MsgAt d) w sv (y.subs.map (plainM d))
    refine rows_map (P := fun w r (z : M d) => MsgQ UNil lo hi d w (.agg r.toArray) z) _ (h4.rows fun i a b z hz => hz) fun r z hz => ?_
    exact MsgQ.plain d w _ z hz
/-! From what a list under way holds. -/
theorem rows_cells {α : Type} {P : World → List Value → α → Prop} {T : TypeId} {k base lo : Nat} {w w' : World} {v : Value} {l : List α} (h : RowsOwn P T k 0 base w v l) (hlb : lo ≤ base) (hw : ∀ b, b < w.heap.size → base ≤ b → w'.heap[b]? = w.heap[b]?) :
    (v = .slice none 0 0 ∧ l = []) ∨ ∃ g cap cur, v = .slice (some ⟨g, 0, none⟩) l.length cap ∧ (lo ≤ g ∧ g < w'.heap.size) ∧ w'.heap[g]? = some (.cells cur T (0, 0)) ∧ l.length ≤ cap ∧ cap ≤ maxLen ∧ cur.size = cap * k ∧
      ∀ (i : Nat) (x : α), l[i]? = some x → ∃ r, r.length = k ∧ (∀ j, j < k → cur[i * k + j]? = r[j]?) ∧ P w' r x := by
  obtain ⟨rows, h1, h2, h3, h4⟩ := h
  rcases h3.2 with ⟨rfl, h0⟩ | ⟨g, cap, cur, hv, hb, hg, hnc, hcm, hcs, ht⟩
  · exact .inl ⟨rfl, List.length_eq_zero_iff.1 h0⟩
  · have hglt := (Array.getElem?_eq_some_iff.1 hg).1
    have hg' := (hw g hglt hb).trans hg
    refine .inr ⟨g, cap, cur, hv, ⟨by omega, (Array.getElem?_eq_some_iff.1 hg').1⟩, hg', hnc, hcm, hcs, fun i x hx => ?_⟩
    have hi := (List.getElem?_eq_some_iff.1 hx).1
    have hr : rows[i]? = some (rows[i]'(by omega)) := List.getElem?_eq_getElem (by omega)
    generalize rows[i]'(by omega) = r at hr
    refine ⟨r, h2 r (List.mem_of_getElem? hr), fun j hj => ?_, h4 w' (fun b hlt _ hc => hw b hlt (by omega)) i r x hr hx⟩
    have e := flatten_get rows i j r h2 hr hj
    rw [← ht, List.getElem?_take] at e
    have hlt : i * k + j < l.length * k := by
      have : (i + 1) * k ≤ l.length * k := Nat.mul_le_mul_right k hi
      rw [Nat.succ_mul] at this
      omega
    rw [if_pos hlt] at e
    rw [← e]; simp
theorem subs_q {α : Type} {P : Nat → World → Value → α → Prop} {base lo : Nat} {w w' : World} {v : Value} {l : List α} (h : RowsOwn (fun w r x => P 0 w (.agg r.toArray) x) 27 2 0 base w v l) (hl : l.length ≤ 140737488355328) (hlb : lo ≤ base) (hw : ∀ b, b < w.heap.size → base ≤ b → w'.heap[b]? = w.heap[b]?) :
    SubsQ (fun _ => P 0) lo w'.heap.size w' v l := by
  refine ⟨hl, ?_⟩
  rcases rows_cells h hlb hw with h | ⟨g, cap, cur, hv, hb, hg, hnc, hcm, hcs, hall⟩
  · exact .inl h
  · refine .inr ⟨g, cap, cur, hv, hb, hg, hnc, hcm, hcs, fun i x hx => ?_⟩
    obtain ⟨r, hr, hc, hP⟩ := hall i x hx
    match r, hr with
    | [c1, c2], _ => exact ⟨c1, c2, by simpa using hc 0 (by decide), by simpa using hc 1 (by decide), hP⟩
theorem vals_q {α : Type} {P : World → Value → Value → Value → Val α → Prop} {base lo : Nat} {w w' : World} {v : Value} {l : List (Val α)} (h : RowsOwn (fun w r x => ∃ wv tv sv, r = [.int .i64 x.num, wv, tv, sv] ∧ P w wv tv sv x) 67 4 0 base w v l) (hl : l.length ≤ 140737488355328) (hlb : lo ≤ base) (hw : ∀ b, b < w.heap.size → base ≤ b → w'.heap[b]? = w.heap[b]?) :
    ValsQ (fun _ => P) lo w'.heap.size w' v l := by
  refine ⟨hl, ?_⟩
  rcases rows_cells h hlb hw with h | ⟨g, cap, cur, hv, hb, hg, hnc, hcm, hcs, hall⟩
  · exact .inl h
  · refine .inr ⟨g, cap, cur, hv, hb, hg, hnc, hcm, hcs, fun i x hx => ?_⟩
    obtain ⟨r, hr, hc, wv, tv, sv, rfl, hP⟩ := hall i x hx
    exact ⟨wv, tv, sv, by simpa using hc 0 (by decide), by simpa using hc 1 (by decide), by simpa using hc 2 (by decide), by simpa using hc 3 (by decide), hP⟩
end Go.Proofs.YtaefpjecalnbcaaGreat
