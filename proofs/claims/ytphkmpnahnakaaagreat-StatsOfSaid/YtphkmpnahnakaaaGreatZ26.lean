/- Parts of a proof: texts of the author, merged. No condition of their own. -/
import Derived.Test.YtphkmpnahnakaaaGreatZ13
import Derived.Test.YtphkmpnahnakaaaGreatZ17
import Derived.Test.YtphkmpnahnakaaaGreatZ25
namespace Go.Proofs.YtphkmpnahnakaaaGreat
open Go.RowKit
end Go.Proofs.YtphkmpnahnakaaaGreat
namespace Go.Proofs.YtphkmpnahnakaaaGreat
open Go.RowKit
def qOf {α:Type} (fs:List Fld) (v:Val α):Int:=fieldAt fs v.num
structure ValsOk {α:Type} (F:Fld → Val α → Bool) (fs:List Fld) (vals:List (Val α)):Prop where
 at':∀ v ∈ vals,0 ≤ qOf fs v ∧ qOf fs v < fs.length ∧ (fs.getD (qOf fs v).toNat .zero).number = v.num ∧ F (fs.getD (qOf fs v).toNat .zero) v = true
 rise:vals.Pairwise fun a b => a.num < b.num
end Go.Proofs.YtphkmpnahnakaaaGreat
namespace Go.Proofs.YtphkmpnahnakaaaGreat
open Go.RowKit
end Go.Proofs.YtphkmpnahnakaaaGreat
namespace Go.Proofs.YtphkmpnahnakaaaGreat
open Go.RowKit
theorem own_append_str {w:World} {base:Nat} {v:Value} {l:List UInt8} (h:Own w base v l) (t:List UInt8) (hlen:l.length + t.length ≤ 140737488355328) (hbase:base ≤ w.heap.size) :
  ∃ v' w',(Builtin.append_ #[24,9] 24 #[v,.string ⟨t.toArray⟩]).run Tryz.prog w = .ok v' w' ∧ Own w' base v' (l ++ t) ∧ w.grownBy w' v.ownBlock ∧ (v'.ownBlock = v.ownBlock ∨ v'.ownBlock = some w.heap.size):=by
 have hs:=Src.ofString (P:=Tryz.prog) w under_str ⟨t.toArray⟩
 have hsz:(⟨t.toArray⟩:ByteArray).size = t.length:=by simp [ByteArray.size]
 have hby:byteCells ⟨t.toArray⟩ = t.map byteV:=by simp [byteCells,byteV]
 rw [hsz,hby] at hs
 obtain ⟨v',w',h1,h2,h3,h4⟩:=src_append (P:=Tryz.prog) w base 24 9 24 5 (.int .u8 0) 1 1 under_bytes info_u8 rfl v (.string ⟨t.toArray⟩) l.length t.length _ _ h hs hlen (by omega) hbase
 exact ⟨v',w',h1,by unfold Own;rw [List.length_append,List.map_append];exact h2,h3,h4⟩
end Go.Proofs.YtphkmpnahnakaaaGreat
namespace Go.Proofs.YtphkmpnahnakaaaGreat
open Go.RowKit
theorem valsB_all {α:Type} {F:Fld → Val α → Bool} {fs:List Fld}:∀ {l:List (Val α)} {last:Int},valsB F fs l last = true → ∀ x ∈ l,0 ≤ fieldAt fs x.num ∧ F (fs.getD (fieldAt fs x.num).toNat .zero) x = true
 | [],_,_,x,hx => by simp at hx
 | y :: r,last,h,x,hx => by
  rw [valsB] at h
  split at h
  ·
   exact absurd h (by decide)
  ·
   rename_i hn
   rcases List.mem_cons.1 hx with rfl | hx
   ·
    refine ⟨by omega,?_⟩
    cases hf:F (fs.getD (fieldAt fs x.num).toNat .zero) x with
    | true => rfl
    | false => exact absurd (.inr (.inr hf)) hn
   ·
    exact valsB_all h x hx
theorem rightB_parts {s:List Mes} {d:Nat} {root:Int} {x:M (d + 1)} (h:rightB s (d + 1) root x = true) :
  0 ≤ root ∧ root < s.length ∧ (∀ v ∈ M.vals x,0 ≤ fieldAt (s.getD root.toNat .zero).fields v.num ∧ fitsB (rightB s d) ((s.getD root.toNat .zero).fields.getD (fieldAt (s.getD root.toNat .zero).fields v.num).toNat .zero) v = true) ∧
   (M.unk x).all (strangeB (s.getD root.toNat .zero).fields) = true:=by
 rw [rightB] at h
 split at h
 ·
  exact absurd h (by decide)
 ·
  rename_i hn
  rw [Bool.and_eq_true] at h
  exact ⟨by omega,by omega,valsB_all h.1,h.2⟩
theorem fieldAt_lt {fs:List Fld} {n:Int} (h:0 ≤ fieldAt fs n):∃ j:Nat,j < fs.length ∧ fieldAt fs n = j:=by
 rcases firstAt_bd (fun f:Fld => decide (f.number = n)) fs 0 with h1 | ⟨jn,h1,h2,h3⟩
 ·
  unfold fieldAt at h;omega
 ·
  exact ⟨jn,by omega,h1⟩
end Go.Proofs.YtphkmpnahnakaaaGreat
namespace Go.Proofs.YtphkmpnahnakaaaGreat
open Go.RowKit
/-! How long the bytes are. -/
theorem sum_le30 {α:Type} {F:α → List UInt8} {f:α → Nat}:∀ (l:List α),(∀ x ∈ l,(F x).length ≤ 30 * f x) → (l.flatMap F).length ≤ 30 * (l.map f).sum
 | [],_ => by simp
 | x :: r,h => by
  have h1:=h x (by simp)
  have h2:=sum_le30 r fun y hy => h y (by simp [hy])
  rw [List.flatMap_cons,List.length_append,List.map_cons,List.sum_cons]
  omega
theorem rput_le (n x:Int) (t:List UInt8) (h:0 ≤ 8 * n + x ∧ 8 * n + x < 18446744073709551616) (ht:t.length < 18446744073709551616):(rput n x t).length ≤ 20 + t.length:=by
 unfold rput
 have h1:=vput_le (x:=(8 * n + x).toNat) (by omega)
 have h2:=vput_le (x:=t.length) (by omega)
 rw [List.length_append,List.length_append]
 split <;> simp <;> omega
theorem enc_lenV {w:World} {s:List Mes} {d:Nat} (ih:∀ (root:Int) (v:Value) (x:M d),MsgAt d w v x → mwt d x ≤ 1125899906842624 → (encM s d root x).length + 30 ≤ 30 * mwt d x) (f:Fld) (hf:0 ≤ f.number ∧ f.number ≤ 536870911) (v:Value) (x:Val (M d)) (h:ValAt (MsgAt d) w v x)
  (hw:vwt (mwt d) x ≤ 1125899906842624):(encV (encM s d) f x).length ≤ 30 * vwt (mwt d) x:=by
 obtain ⟨wv,tv,sv,rfl,-,hW,hT,hSu⟩:=h
 obtain ⟨-,sa,sc,-,-,hsa⟩:=hSu.open
 have hwt:=hw
 unfold vwt at hwt
 unfold encV
 by_cases hk:knumber f.kind = true
 ·
  rw [if_pos hk]
  cases hr:f.rep with
  | true =>
   rw [if_pos rfl]
   have h1:=kpack_le f.kind x.words hW.2
   have h2:=rput_le f.number 2 (kpack f.kind x.words) (by omega) (by omega)
   unfold vwt
   omega
  | false =>
   rw [if_neg (by decide)]
   have h0:x.words.getD 0 0 < 2 ^ 64:=by
    cases hx:x.words[0]? with
    | none => rw [List.getD,hx];decide
    | some y => rw [List.getD,hx];exact hW.2 y (List.mem_of_getElem? hx)
   have h1:=kput_le f.kind h0
   have h3:kwire f.kind ≤ 5:=by
    unfold kwire
    repeat' split
    all_goals omega
   have h2:=rput_le f.number (kwire f.kind) (kput f.kind (x.words.getD 0 0)) (by omega) (by omega)
   unfold vwt
   omega
 ·
  rw [if_neg hk,List.length_append]
  have h1:(x.texts.flatMap (rput f.number 2)).length ≤ 30 * twt x.texts:=by
   refine sum_le30 _ fun t ht => ?_
   have h3:=mem_sum_le (fun t:List UInt8 => 1 + t.length) x.texts t ht
   unfold twt at hwt
   have h2:=rput_le f.number 2 t (by omega) (by omega)
   show _ ≤ 30 * (1 + t.length)
   omega
  have h2:(x.subs.flatMap fun y => rput f.number 2 (encM s d f.of y)).length ≤ 30 * (x.subs.map (mwt d)).sum:=by
   refine sum_le30 _ fun y hy => ?_
   obtain ⟨k,hk⟩:=List.mem_iff_getElem?.1 hy
   obtain ⟨b,o,v1,v2,-,-,-,hM⟩:=hsa k y hk
   have h3:=mem_sum_le (mwt d) x.subs y hy
   have h4:=ih f.of _ y hM (by omega)
   have h5:=rput_le f.number 2 (encM s d f.of y) (by omega) (by omega)
   omega
  unfold vwt
  omega
theorem enc_len {w:World} {s:List Mes} (hs:sright s = true):∀ (d:Nat) (root:Int) (v:Value) (x:M d),MsgAt d w v x → mwt d x ≤ 1125899906842624 → (encM s d root x).length + 30 ≤ 30 * mwt d x
 | 0,_,_,_,h,_ => h.elim
 | d + 1,root,v,x,h,hw => by
  obtain ⟨vv,uv,rfl,hV,hU⟩:=h
  obtain ⟨-,va,vc,-,-,hva⟩:=hV.open
  have e:mwt (d + 1) x = 1 + twt (M.unk x) + ((M.vals x).map (vwt (mwt d))).sum:=rfl
  have e2:encM s (d + 1) root x = (M.vals x).flatMap (fun v => encV (encM s d) ((s.getD root.toNat .zero).fields.getD (fieldAt (s.getD root.toNat .zero).fields v.num).toNat .zero) v) ++ (M.unk x).flatMap id:=rfl
  rw [e] at hw ⊢
  rw [e2,List.length_append]
  have h1:((M.unk x).flatMap id).length ≤ 30 * twt (M.unk x):=by
   refine sum_le30 _ fun t _ => ?_
   show t.length ≤ 30 * (1 + t.length)
   omega
  have h2:((M.vals x).flatMap (fun v => encV (encM s d) ((s.getD root.toNat .zero).fields.getD (fieldAt (s.getD root.toNat .zero).fields v.num).toNat .zero) v)).length ≤ 30 * ((M.vals x).map (vwt (mwt d))).sum:=by
   refine sum_le30 _ fun y hy => ?_
   obtain ⟨k,hk⟩:=List.mem_iff_getElem?.1 hy
   obtain ⟨b,o,v1,v2,v3,-,-,-,-,-,hM⟩:=hva k y hk
   have h3:=mem_sum_le (vwt (mwt d)) (M.vals x) y hy
   refine enc_lenV (w:=w) (fun root v x h hw => enc_len hs d root v x h hw) _ ?_ _ y hM (by omega)
   generalize (fieldAt (s.getD root.toNat .zero).fields y.num).toNat = j
   by_cases hr:root.toNat < s.length
   ·
    by_cases hj:j < (s.getD root.toNat .zero).fields.length
    ·
     have hm:(s.getD root.toNat .zero).fields.getD j .zero ∈ (s.getD root.toNat .zero).fields:=by
      have:(s.getD root.toNat .zero).fields.getD j .zero = (s.getD root.toNat .zero).fields[j]:=by rw [List.getD,List.getElem?_eq_getElem hj];rfl
      rw [this];exact List.getElem_mem hj
     have:=sright_num hs root.toNat hr _ hm
     omega
    ·
     have:(s.getD root.toNat .zero).fields.getD j .zero = .zero:=by rw [List.getD,List.getElem?_eq_none (by omega)];rfl
     rw [this];decide
   ·
    have h0:s.getD root.toNat .zero = .zero:=by rw [List.getD,List.getElem?_eq_none (by omega)];rfl
    rw [h0]
    have:(Mes.zero).fields.getD j .zero = Fld.zero:=by simp [Mes.zero]
    rw [this];decide
  omega
end Go.Proofs.YtphkmpnahnakaaaGreat
namespace Go.Proofs.YtphkmpnahnakaaaGreat
open Go.RowKit
end Go.Proofs.YtphkmpnahnakaaaGreat
namespace Go.Proofs.YtphkmpnahnakaaaGreat
open Go.RowKit
end Go.Proofs.YtphkmpnahnakaaaGreat
