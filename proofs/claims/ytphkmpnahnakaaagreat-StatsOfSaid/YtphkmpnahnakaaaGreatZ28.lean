/- Parts of a proof: texts of the author, merged. No condition of their own. -/
import Derived.Test.YtphkmpnahnakaaaGreatZ19
import Derived.Test.YtphkmpnahnakaaaGreatZ25
import Derived.Test.YtphkmpnahnakaaaGreatZ26
import Derived.Test.YtphkmpnahnakaaaGreatZ27
namespace Go.Proofs.YtphkmpnahnakaaaGreat
open Go.RowKit
theorem flatMap_same {α β:Type} {f g:α → List β} {l:List α} (h:∀ x ∈ l,f x = g x):l.flatMap f = l.flatMap g:=by
 induction l with
 | nil => rfl
 | cons x r ih => rw [List.flatMap_cons,List.flatMap_cons,h x (by simp),ih fun y hy => h y (by simp [hy])]
end Go.Proofs.YtphkmpnahnakaaaGreat
namespace Go.Proofs.YtphkmpnahnakaaaGreat
open Go.RowKit
theorem flat_single {α β:Type} (g:α → β) (l:List α):(l.flatMap fun a => [g a]) = l.map g:=by
 induction l with
 | nil => rfl
 | cons a r ih => rw [List.flatMap_cons,ih];rfl
theorem filter_map_flat {α β:Type} (g:α → β) (p:β → Bool) (l:List α):(l.map g).filter p = l.flatMap fun x => [g x].filter p:=by
 induction l with
 | nil => rfl
 | cons x r ih => rw [List.map_cons,List.flatMap_cons,← ih,← List.filter_append];rfl
end Go.Proofs.YtphkmpnahnakaaaGreat
namespace Go.Proofs.YtphkmpnahnakaaaGreat
open Go.RowKit
def nform (s:List Mes) (d m:Nat) (l:List UInt8):List UInt8:=encM s (d + 1) (m:Int) (tof s d m l)
def nfield (s:List Mes) (d:Nat) (f:Fld) (l:List UInt8) (xs:List VW):List UInt8:=
 if 0 < many (fieldV (tsub s d) f l xs) then encV (encM s d) f (fieldV (tsub s d) f l xs) else []
theorem nfield_nil (s:List Mes) (d:Nat) (f:Fld) (l:List UInt8):nfield s d f l [] = []:=by
 unfold nfield
 rw [if_neg]
 have hc:counts f ([]:List VW) = []:=by unfold counts lastOf;split <;> rfl
 unfold many fieldV
 rw [hc]
 simp
theorem nform_flat {s:List Mes} (hs:sright s = true) {d m:Nat} {l:List UInt8} (hm:m < s.length) :
  nform s d m l = ((sortedF (s.getD m .zero).fields).flatMap fun i => nfield s d ((s.getD m .zero).fields.getD i.toNat .zero) l (viewsOf (vall (s.getD m .zero).fields l).1 i)) ++ ((vall (s.getD m .zero).fields l).1.filter fun x => decide (x.k < 0)).flatMap fun x => part l x.r.start x.r.to:=by
 obtain ⟨fs,hfs⟩:∃ fs,fs = (s.getD m .zero).fields:=⟨_,rfl⟩
 have hN:Nums fs:=by rw [hfs];exact schema_Nums hs m hm
 unfold nform
 rw [tof_msg]
 show (List.flatMap (fun v => encV (encM s d) ((s.getD (m:Int).toNat .zero).fields.getD (fieldAt (s.getD (m:Int).toNat .zero).fields v.num).toNat .zero) v)
   ((((sortedF (s.getD m .zero).fields).map fun i => fieldV (tsub s d) ((s.getD m .zero).fields.getD i.toNat .zero) l (viewsOf (vall (s.getD m .zero).fields l).1 i)).filter fun v => decide (0 < many v)))) ++ List.flatMap id _ = _
 rw [Int.toNat_natCast,← hfs]
 congr 1
 ·
  rw [filter_map_flat,List.flatMap_assoc]
  refine flatMap_same fun i hi => ?_
  obtain ⟨hi0,hil⟩:=sortedF_mem hi
  obtain ⟨q,rfl⟩:∃ q:Nat,i = q:=⟨i.toNat,by omega⟩
  have hat:fieldAt fs (fs.getD q .zero).number = q:=hN.at (by omega)
  rw [Int.toNat_natCast]
  unfold nfield
  by_cases h:0 < many (fieldV (tsub s d) (fs.getD q .zero) l (viewsOf (vall fs l).1 (q:Int)))
  ·
   rw [if_pos h,List.filter_cons,decide_eq_true h,if_pos rfl,List.filter_nil,List.flatMap_cons,List.flatMap_nil,List.append_nil]
   show encV (encM s d) (fs.getD (fieldAt fs (fs.getD q .zero).number).toNat .zero) _ = _
   rw [hat,Int.toNat_natCast]
  ·
   rw [if_neg h,List.filter_cons,decide_eq_false h,if_neg (by decide),List.filter_nil,List.flatMap_nil]
 ·
  show List.flatMap id (((vall fs l).1.filter fun x => decide (x.k < 0)).map fun x => part l x.r.start x.r.to) = _
  rw [List.flatMap_map];rfl
theorem lastOf_ne {α:Type} {xs:List α} (h:xs ≠ []):∃ p x,xs = p ++ [x] ∧ lastOf xs = [x]:=by
 rcases lastOf_cases xs with ⟨e,-⟩ | ⟨p,x,e1,e2⟩
 ·
  exact absurd e h
 ·
  exact ⟨p,x,e1,e2⟩
theorem recs_run {R:Int → List UInt8 → Prop} {f:Fld} {l:List UInt8} {xs:List VW} (h:FieldRecs R f l xs) (h1:f.rep = false ∨ knumber f.kind = false):∀ x ∈ xs,x.run = false:=by
 intro x hx
 cases hr:x.run with
 | false => rfl
 | true =>
  obtain ⟨h2,h3⟩:=h.run x hx hr
  rcases h1 with h1 | h1
  ·
   rw [h2] at h1;cases h1
  ·
   rw [h3] at h1;cases h1
theorem kpack_nil {k:Int} {ws:List Nat}:(kpack k ws).length = 0 ↔ ws = []:=by
 cases ws with
 | nil => simp [kpack]
 | cons x r =>
  have:=@kput_pos k x
  unfold kpack
  rw [List.flatMap_cons,List.length_append]
  exact ⟨fun h => by omega,fun h => by cases h⟩
theorem nfield_nums {s:List Mes} {d:Nat} {f:Fld} {l:List UInt8} {xs:List VW} (hk:knumber f.kind = true) (hr:f.rep = true) :
  nfield s d f l xs = if (kpack f.kind (xs.flatMap (pieceW f l))).length = 0 then [] else rput f.number 2 (kpack f.kind (xs.flatMap (pieceW f l))):=by
 have h17:f.kind ≠ 17:=by rintro h;rw [h] at hk;cases hk
 have hc:counts f xs = xs:=by unfold counts;rw [if_pos hr]
 have hB:xs.flatMap (pieceB f l) = []:=flat_nil _ _ fun x _ => by unfold pieceB;rw [if_pos (.inr hk)]
 have e:fieldV (tsub s d) f l xs = ⟨f.number,xs.flatMap (pieceW f l),[],[]⟩:=by
  unfold fieldV;rw [hc,if_neg h17,if_neg h17,hB]
 unfold nfield
 rw [e]
 by_cases h0:xs.flatMap (pieceW f l) = []
 ·
  rw [h0,if_neg (by simp [many]),if_pos (by simp [kpack])]
 ·
  rw [if_pos,if_neg (fun h => h0 (kpack_nil.1 h))]
  ·
   unfold encV;rw [if_pos hk,if_pos hr]
  ·
   unfold many
   have:0 < (xs.flatMap (pieceW f l)).length:=List.length_pos_iff.2 h0
   simp only;omega
theorem nfield_num {R:Int → List UInt8 → Prop} {s:List Mes} {d:Nat} {f:Fld} {l:List UInt8} {p:List VW} {x:VW} (h:FieldRecs R f l (p ++ [x])) (hk:knumber f.kind = true) (hr:f.rep = false) :
  nfield s d f l (p ++ [x]) = rput f.number (kwire f.kind) (kput f.kind (kread f.kind (vbytes l x)).1):=by
 have h17:f.kind ≠ 17:=by rintro h;rw [h] at hk;cases hk
 have hc:counts f (p ++ [x]) = [x]:=by rw [counts_snoc,if_neg (by rw [hr];decide)];rfl
 have hx:=recs_run h (.inl hr) x (by simp)
 have e:fieldV (tsub s d) f l (p ++ [x]) = ⟨f.number,[(kread f.kind (vbytes l x)).1],[],[]⟩:=by
  unfold fieldV
  rw [hc,if_neg h17,if_neg h17]
  simp [pieceW,pieceB,hx,hk]
 unfold nfield
 rw [e,if_pos (by simp [many])]
 unfold encV
 rw [if_pos hk,if_neg (by rw [hr];decide)]
 rfl
theorem words_none' {R:Int → List UInt8 → Prop} {f:Fld} {l:List UInt8} {xs:List VW} (h:FieldRecs R f l xs) (hk:knumber f.kind = false):(counts f xs).flatMap (pieceW f l) = []:=
 flat_nil _ _ fun x hx => by
  unfold pieceW
  rw [recs_run h (.inr hk) x (counts_sub f xs hx),if_neg (by decide),if_neg (by rw [hk];decide)]
theorem nfield_one {R:Int → List UInt8 → Prop} {s:List Mes} {d:Nat} {f:Fld} {l:List UInt8} {xs:List VW} (h:FieldRecs R f l xs) (h17:f.kind = 17) (hr:f.rep = false) (hx:xs ≠ []) (ho:0 ≤ f.of) :
  nfield s (d + 1) f l xs = rput f.number 2 (nform s d f.of.toNat (xs.flatMap (vbytes l))):=by
 have hk:knumber f.kind = false:=by rw [h17];rfl
 have e:fieldV (tsub s (d + 1)) f l xs = ⟨f.number,[],[],[tof s d f.of.toNat (xs.flatMap (vbytes l))]⟩:=by
  unfold fieldV
  rw [words_none' h hk,if_pos h17,if_pos h17,if_neg (by rw [hr];decide),if_neg hx];rfl
 unfold nfield
 rw [e,if_pos (by simp [many])]
 unfold encV
 rw [if_neg (by rw [hk];decide)]
 unfold nform
 simp only [List.flatMap_nil,List.nil_append,List.flatMap_cons,List.append_nil]
 rw [Int.toNat_of_nonneg ho]
theorem nfield_subs {R:Int → List UInt8 → Prop} {s:List Mes} {d:Nat} {f:Fld} {l:List UInt8} {xs:List VW} (h:FieldRecs R f l xs) (h17:f.kind = 17) (hr:f.rep = true) (ho:0 ≤ f.of) :
  nfield s (d + 1) f l xs = xs.flatMap fun x => rput f.number 2 (nform s d f.of.toNat (vbytes l x)):=by
 have hk:knumber f.kind = false:=by rw [h17];rfl
 have e:fieldV (tsub s (d + 1)) f l xs = ⟨f.number,[],[],xs.map fun x => tof s d f.of.toNat (vbytes l x)⟩:=by
  unfold fieldV
  rw [words_none' h hk,if_pos h17,if_pos h17,if_pos hr]
  have:(xs.flatMap fun x => tsub s (d + 1) f.of (vbytes l x)) = xs.map fun x => tof s d f.of.toNat (vbytes l x):=flat_single _ _
  rw [this]
 unfold nfield
 cases xs with
 | nil =>
  rw [e,if_neg (by simp [many])];rfl
 | cons x0 r0 =>
  rw [e,if_pos (by simp [many])]
  unfold encV
  rw [if_neg (by rw [hk];decide)]
  unfold nform
  simp only [List.flatMap_nil,List.nil_append]
  rw [List.flatMap_map,Int.toNat_of_nonneg ho]
theorem nfield_texts {R:Int → List UInt8 → Prop} {s:List Mes} {d:Nat} {f:Fld} {l:List UInt8} {xs:List VW} (h:FieldRecs R f l xs) (hk:knumber f.kind = false) (h17:f.kind ≠ 17) (hr:f.rep = true) :
  nfield s d f l xs = xs.flatMap fun x => rput f.number 2 (vbytes l x):=by
 have hc:counts f xs = xs:=by unfold counts;rw [if_pos hr]
 have hB:xs.flatMap (pieceB f l) = xs.map (vbytes l):=by
  rw [← flat_single]
  refine flatMap_same fun x hx => ?_
  unfold pieceB
  rw [recs_run h (.inr hk) x hx,if_neg (by rw [hk];decide)]
 have hW:=words_none' h hk
 rw [hc] at hW
 have e:fieldV (tsub s d) f l xs = ⟨f.number,[],xs.map (vbytes l),[]⟩:=by
  unfold fieldV;rw [hc,if_neg h17,if_neg h17,hB,hW]
 unfold nfield
 cases xs with
 | nil => rw [e,if_neg (by simp [many])];rfl
 | cons x0 r0 =>
  rw [e,if_pos (by simp [many])]
  unfold encV
  rw [if_neg (by rw [hk];decide)]
  simp only [List.flatMap_nil,List.append_nil]
  rw [List.flatMap_map]
theorem nfield_text {R:Int → List UInt8 → Prop} {s:List Mes} {d:Nat} {f:Fld} {l:List UInt8} {p:List VW} {x:VW} (h:FieldRecs R f l (p ++ [x])) (hk:knumber f.kind = false) (h17:f.kind ≠ 17) (hr:f.rep = false) :
  nfield s d f l (p ++ [x]) = rput f.number 2 (vbytes l x):=by
 have hc:counts f (p ++ [x]) = [x]:=by rw [counts_snoc,if_neg (by rw [hr];decide)];rfl
 have hW:=words_none' h hk
 rw [hc] at hW
 have hx:=recs_run h (.inl hr) x (by simp)
 have e:fieldV (tsub s d) f l (p ++ [x]) = ⟨f.number,[],[vbytes l x],[]⟩:=by
  unfold fieldV
  rw [hc,if_neg h17,if_neg h17,hW]
  simp [pieceB,hx,hk]
 unfold nfield
 rw [e,if_pos (by simp [many])]
 unfold encV
 rw [if_neg (by rw [hk];decide)]
 simp
theorem rput_len20 {n wire:Int} (hn:0 ≤ n ∧ n ≤ 536870911) (hw:0 ≤ wire ∧ wire ≤ 7) {t:List UInt8} (ht:t.length < 2 ^ 64):(rput n wire t).length ≤ 20 + t.length:=by
 unfold rput
 have h1:=@vput_le (8 * n + wire).toNat (by omega)
 have h2:=@vput_le t.length ht
 rw [List.length_append,List.length_append]
 split
 ·
  omega
 ·
  simp;omega
theorem kwire_le (k:Int):0 ≤ kwire k ∧ kwire k ≤ 7:=by
 unfold kwire
 repeat' split
 all_goals omega
theorem vsum_one {x:VW} {xs:List VW} (h:x ∈ xs):vsize x ≤ vsum xs:=by
 unfold vsum
 exact mem_sum_le vsize xs x h
theorem flat_thirty {α:Type} (g:VW → List α):∀ (xs:List VW),(∀ x ∈ xs,(g x).length ≤ 30 * vsize x) → (xs.flatMap g).length ≤ 30 * vsum xs
 | [],_ => by simp
 | x :: r,h => by
  have h1:=h x (by simp)
  have h2:=flat_thirty g r fun y hy => h y (by simp [hy])
  unfold vsum at h2 ⊢
  rw [List.flatMap_cons,List.length_append,List.map_cons,List.sum_cons]
  omega
theorem vbytes_sum {l:List UInt8}:∀ {xs:List VW},(∀ x ∈ xs,Thin x) → (xs.flatMap (vbytes l)).length + xs.length ≤ vsum xs
 | [],_ => by simp [vsum]
 | x :: r,h => by
  have h1:=h x (by simp)
  have h2:=@vbytes_sum l r fun y hy => h y (by simp [hy])
  have h3:=vbytes_len l x
  unfold Thin at h1
  unfold vsum at h2 ⊢
  rw [List.flatMap_cons,List.length_append,List.map_cons,List.sum_cons,List.length_cons]
  omega
theorem nform_len {s:List Mes} (hs:sright s = true):∀ (d m:Nat) (l:List UInt8),m < s.length → (vmsg s d m l).2 = 0 → l.length ≤ 1099511627776 → (nform s d m l).length ≤ 30 * l.length
 | d,m,l,hm,h,hl => by
  obtain ⟨fs,hfs⟩:∃ fs,fs = (s.getD m .zero).fields:=⟨_,rfl⟩
  rw [nform_flat hs hm,← hfs]
  have hall:=all_vsum fs l
  have hthin:=all_thin fs l
  have hsp:=vsum_split (vall fs l).1 (sortedF fs) (by
   refine List.Pairwise.imp (fun {a b} hab => ?_) (sortF_ok fs fs.length).2
   rintro rfl
   exact Ahead.asymm _ _ hab hab) (fun i hi => (sortedF_mem hi).1)
  have hunk:(((vall fs l).1.filter fun x => decide (x.k < 0)).flatMap fun x => part l x.r.start x.r.to).length ≤ 30 * vsum ((vall fs l).1.filter fun x => decide (x.k < 0)):=
   flat_thirty _ _ fun x hx => by
    have:(part l x.r.start x.r.to).length ≤ vsize x:=by unfold part vsize;simp;omega
    omega
  have hfield:∀ i ∈ sortedF fs,(nfield s d (fs.getD i.toNat .zero) l (viewsOf (vall fs l).1 i)).length ≤ 30 * vsum (viewsOf (vall fs l).1 i):=fun i hi => by
   obtain ⟨hi0,hil⟩:=sortedF_mem hi
   obtain ⟨q,rfl⟩:∃ q:Nat,i = q:=⟨i.toNat,by omega⟩
   rw [Int.toNat_natCast]
   have hq:q < fs.length:=by omega
   have hR:=field_recs hs hm h (q:=q) (by rw [← hfs];exact hq)
   rw [← hfs] at hR
   obtain ⟨f,hf⟩:∃ f,f = fs.getD q .zero:=⟨_,rfl⟩
   have hnum:1 ≤ f.number ∧ f.number ≤ 536870911:=by
    have:=of_decide_eq_true (schema_nums hs m hm q (by rw [← hfs];exact hq)).2
    rw [hf,hfs];exact ⟨this.1,this.2.1⟩
   have hof:=of_range hs hm (q:=q) (by rw [← hfs];exact hq)
   rw [← hfs,← hf] at hof
   rw [← hf] at hR ⊢
   have ht:∀ x ∈ viewsOf (vall fs l).1 (q:Int),Thin x:=fun x hx => hthin x (viewsOf_mem hx).1
   have hsum:vsum (viewsOf (vall fs l).1 (q:Int)) ≤ l.length:=by have:=vsum_filter (fun x => decide (x.k = (q:Int))) (vall fs l).1;unfold viewsOf;omega
   obtain ⟨xs,hxs⟩:∃ xs,xs = viewsOf (vall fs l).1 (q:Int):=⟨_,rfl⟩
   rw [← hxs] at hR ht hsum ⊢
   by_cases hx:xs = []
   ·
    rw [hx,nfield_nil];simp
   obtain ⟨p,x,hpx,-⟩:=lastOf_ne hx
   have hxm:x ∈ xs:=by rw [hpx];simp
   have hvb:=vbytes_sum (l:=l) ht
   have hvx:(vbytes l x).length ≤ vsum xs:=by have:=vbytes_len l x;have:=ht x hxm;have:=vsum_one hxm;unfold Thin at *;omega
   have hp1:1 ≤ vsum xs:=by have:=vsum_one hxm;have:=ht x hxm;unfold Thin at *;omega
   cases hk:knumber f.kind with
   | true =>
    cases hr:f.rep with
    | true =>
     rw [nfield_nums hk hr]
     have hw:=words_bound (f:=f) (l:=l) ht
     have hc:counts f xs = xs:=by unfold counts;rw [if_pos hr]
     rw [hc] at hw
     have hp:=kpack_le f.kind (xs.flatMap (pieceW f l)) fun y hy => by
      obtain ⟨z,-,hz⟩:=List.mem_flatMap.1 hy
      exact pieceW_lt hz
     split
     ·
      simp
     ·
      have:=rput_len20 (n:=f.number) (wire:=2) ⟨by omega,hnum.2⟩ (by omega) (t:=kpack f.kind (xs.flatMap (pieceW f l))) (by omega)
      omega
    | false =>
     rw [hpx,nfield_num (by rw [← hpx];exact hR) hk hr,← hpx]
     have h1:=kput_le f.kind (kread_lt f.kind (vbytes l x))
     have:=rput_len20 (n:=f.number) (wire:=kwire f.kind) ⟨by omega,hnum.2⟩ (by have:=kwire_le f.kind;omega) (t:=kput f.kind (kread f.kind (vbytes l x)).1) (by omega)
     omega
   | false =>
    by_cases h17:f.kind = 17
    ·
     obtain ⟨g1,g2⟩:=hR.sub h17
     obtain ⟨d',rfl,-⟩:=g1 x hxm
     cases hr:f.rep with
     | true =>
      rw [nfield_subs hR h17 hr hof.1]
      refine flat_thirty _ _ fun y hy => ?_
      obtain ⟨d2,e2,hv⟩:=g1 y hy
      obtain rfl:d2 = d':=by omega
      have hty:=ht y hy
      have hvy:=vbytes_len l y
      have h1:=nform_len hs d2 f.of.toNat (vbytes l y) (by omega) hv (by have:=vsum_one hy;unfold Thin at hty;omega)
      have:=rput_len20 (n:=f.number) (wire:=2) ⟨by omega,hnum.2⟩ (by omega) (t:=nform s d2 f.of.toNat (vbytes l y)) (by have:=vsum_one hy;unfold Thin at hty;omega)
      unfold Thin at hty
      omega
     | false =>
      rw [nfield_one hR h17 hr hx hof.1]
      obtain ⟨d2,e2,hv⟩:=g2 hr hx
      obtain rfl:d2 = d':=by omega
      have hl1:1 ≤ xs.length:=List.length_pos_iff.2 hx
      have h1:=nform_len hs d2 f.of.toNat (xs.flatMap (vbytes l)) (by omega) hv (by omega)
      have:=rput_len20 (n:=f.number) (wire:=2) ⟨by omega,hnum.2⟩ (by omega) (t:=nform s d2 f.of.toNat (xs.flatMap (vbytes l))) (by omega)
      omega
    ·
     cases hr:f.rep with
     | true =>
      rw [nfield_texts hR hk h17 hr]
      refine flat_thirty _ _ fun y hy => ?_
      have hty:=ht y hy
      have hvy:=vbytes_len l y
      have:=rput_len20 (n:=f.number) (wire:=2) ⟨by omega,hnum.2⟩ (by omega) (t:=vbytes l y) (by have:=vsum_one hy;unfold Thin at hty;omega)
      unfold Thin at hty
      omega
     | false =>
      rw [hpx,nfield_text (by rw [← hpx];exact hR) hk h17 hr,← hpx]
      have:=rput_len20 (n:=f.number) (wire:=2) ⟨by omega,hnum.2⟩ (by omega) (t:=vbytes l x) (by omega)
      omega
  have hflat:∀ (L:List Int),(∀ i ∈ L,(nfield s d (fs.getD i.toNat .zero) l (viewsOf (vall fs l).1 i)).length ≤ 30 * vsum (viewsOf (vall fs l).1 i)) →
    (L.flatMap fun i => nfield s d (fs.getD i.toNat .zero) l (viewsOf (vall fs l).1 i)).length ≤ 30 * (L.map fun i => vsum (viewsOf (vall fs l).1 i)).sum:=by
   intro L
   induction L with
   | nil => intro _;simp
   | cons i r ih =>
    intro hL
    have h1:=hL i (by simp)
    have h2:=ih fun j hj => hL j (by simp [hj])
    rw [List.flatMap_cons,List.length_append,List.map_cons,List.sum_cons]
    omega
  have h1:=hflat _ hfield
  rw [List.length_append]
  omega
 termination_by d => d
end Go.Proofs.YtphkmpnahnakaaaGreat
