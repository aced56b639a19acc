/- Parts of a proof: texts of the author, merged. No condition of their own. -/
import Derived.Test.YtphkmpnahnakaaaGreatZ16
import Derived.Test.YtphkmpnahnakaaaGreatZ18
import Derived.Test.YtphkmpnahnakaaaGreatZ19
import Derived.Test.YtphkmpnahnakaaaGreatZ24
import Derived.StillTailTactics
import Derived.BigQuiet
import Derived.Deep.CutBlock
namespace Go.Proofs.YtphkmpnahnakaaaGreat
open Go.RowKit Go.Shelf
abbrev noneS:Value:=.slice none 0 0
def OfInv (s:List Mes) (d:Nat) (f:Fld) (l:List UInt8) (xs:List VW) (B:Nat) (w:World) (j s1 s2 s3:Value):Prop:=
 (knumber f.kind = true → s2 = noneS ∧ s3 = noneS ∧ j = noneS ∧ WordsOwn w B s1 ((counts f xs).flatMap (pieceW f l))) ∧
 (f.kind = 17 → s1 = noneS ∧ s2 = noneS ∧
  (f.rep = true → j = noneS ∧ RowsOwn (SubP d) 78 2 0 B w s3 (xs.flatMap fun x => tsub s d f.of (vbytes l x))) ∧
  (f.rep = false → s3 = noneS ∧ Own w B j (xs.flatMap (vbytes l)))) ∧
 (knumber f.kind = false → f.kind ≠ 17 → s1 = noneS ∧ s3 = noneS ∧ j = noneS ∧ StrsOwn w B s2 ((counts f xs).flatMap (pieceB f l)))
theorem own_form {w:World} {base:Nat} {v:Value} {l:List UInt8} (h:Own w base v l):∃ a c,v = .slice a l.length c:=by
 rcases h.2 with ⟨h1,h2⟩ | ⟨g,cap,cur,hv,-⟩
 ·
  exact ⟨none,0,by rw [h1,h2]⟩
 ·
  exact ⟨_,_,hv⟩
theorem OfInv.start (s:List Mes) (d:Nat) (f:Fld) (l:List UInt8) (B:Nat) (w:World):OfInv s d f l [] B w noneS noneS noneS noneS:=by
 have hc:counts f ([]:List VW) = []:=by unfold counts;split <;> rfl
 refine ⟨fun _ => ⟨rfl,rfl,rfl,?_⟩,fun _ => ⟨rfl,rfl,fun _ => ⟨rfl,RowsOwn.nil _ _ _ _ _ _⟩,fun _ => ⟨rfl,own_nil _ _⟩⟩,fun _ _ => ⟨rfl,rfl,rfl,?_⟩⟩
 ·
  rw [hc];exact World.ownsRow_nil _ _ _ _
 ·
  rw [hc];exact World.ownsRow_nil _ _ _ _
theorem OfInv.keep {s:List Mes} {d:Nat} {f:Fld} {l:List UInt8} {xs:List VW} {B:Nat} {w w':World} {j s1 s2 s3:Value} (h:OfInv s d f l xs B w j s1 s2 s3)
  (hk:∀ b,B ≤ b → b < w.heap.size → w'.heap[b]? = w.heap[b]?) (hs:w.heap.size ≤ w'.heap.size):OfInv s d f l xs B w' j s1 s2 s3:=by
 have hr:∀ {e:TypeId} {size n:Nat} {v:Value} {ys:List Value},w.ownsRow B e size v n ys → w'.ownsRow B e size v n ys:=fun h => row_keep h fun b _ hb he => hk b hb (Array.getElem?_eq_some_iff.1 he).1
 refine ⟨fun h1 => ?_,fun h1 => ?_,fun h1 h2 => ?_⟩
 ·
  obtain ⟨g1,g2,g3,g4⟩:=h.1 h1
  exact ⟨g1,g2,g3,hr g4⟩
 ·
  obtain ⟨g1,g2,g3,g4⟩:=h.2.1 h1
  exact ⟨g1,g2,fun hr => ⟨(g3 hr).1,(g3 hr).2.later (fun b hlt hc => hk b (by omega) hlt) hs⟩,fun hr' => ⟨(g4 hr').1,hr (g4 hr').2⟩⟩
 ·
  obtain ⟨g1,g2,g3,g4⟩:=h.2.2 h1 h2
  exact ⟨g1,g2,g3,hr g4⟩
theorem counts_flat {α β:Type} (f:Fld) (xs:List α) (x:α) (g:α → List β):(counts f (xs ++ [x])).flatMap g = (if f.rep = true then (counts f xs).flatMap g else []) ++ g x:=by
 rw [counts_snoc,List.flatMap_append]
 by_cases h:f.rep = true
 ·
  rw [if_pos h,if_pos h];unfold counts;rw [if_pos h];simp
 ·
  rw [if_neg h,if_neg h];simp
theorem OfInv.num {s:List Mes} {d:Nat} {f:Fld} {l:List UInt8} {xs:List VW} {B:Nat} {w:World} {v:Value} {x:VW} (hk:knumber f.kind = true) (ws:List Nat) (hw:(if f.rep = true then (counts f xs).flatMap (pieceW f l) else []) ++ pieceW f l x = ws) (h:WordsOwn w B v ws) :
  OfInv s d f l (xs ++ [x]) B w noneS v noneS noneS:=by
 refine ⟨fun _ => ⟨rfl,rfl,rfl,?_⟩,fun h1 => ?_,fun h1 => ?_⟩
 ·
  rw [counts_flat,hw];exact h
 ·
  rw [h1] at hk;exact absurd hk (by decide)
 ·
  rw [h1] at hk;cases hk
theorem OfInv.text {s:List Mes} {d:Nat} {f:Fld} {l:List UInt8} {xs:List VW} {B:Nat} {w:World} {v:Value} {x:VW} (hk:knumber f.kind = false) (h17:f.kind ≠ 17) (hx:x.run = false) (h:StrsOwn w B v ((if f.rep = true then (counts f xs).flatMap (pieceB f l) else []) ++ [vbytes l x])) :
  OfInv s d f l (xs ++ [x]) B w noneS noneS v noneS:=by
 refine ⟨fun h1 => ?_,fun h1 => absurd h1 h17,fun _ _ => ⟨rfl,rfl,rfl,?_⟩⟩
 ·
  rw [h1] at hk;cases hk
 ·
  rw [counts_flat]
  unfold pieceB at h ⊢
  rw [if_neg (show ¬ (x.run = true ∨ knumber f.kind = true) by rw [hx,hk];simp)]
  exact h
theorem OfInv.sub {s:List Mes} {d:Nat} {f:Fld} {l:List UInt8} {xs:List VW} {B:Nat} {w:World} {v:Value} {x:VW} (h17:f.kind = 17) (hr:f.rep = true)
  (h:RowsOwn (SubP d) 78 2 0 B w v ((xs.flatMap fun x => tsub s d f.of (vbytes l x)) ++ tsub s d f.of (vbytes l x))):OfInv s d f l (xs ++ [x]) B w noneS noneS noneS v:=by
 refine ⟨fun h1 => ?_,fun _ => ⟨rfl,rfl,fun _ => ⟨rfl,?_⟩,fun h2 => ?_⟩,fun _ h1 => absurd h17 h1⟩
 ·
  rw [h17] at h1;cases h1
 ·
  rw [List.flatMap_append];simpa using h
 ·
  rw [hr] at h2;cases h2
theorem OfInv.join {s:List Mes} {d:Nat} {f:Fld} {l:List UInt8} {xs:List VW} {B:Nat} {w:World} {v:Value} {x:VW} (h17:f.kind = 17) (hr:f.rep = false)
  (h:Own w B v (xs.flatMap (vbytes l) ++ vbytes l x)):OfInv s d f l (xs ++ [x]) B w v noneS noneS noneS:=by
 refine ⟨fun h1 => ?_,fun _ => ⟨rfl,rfl,fun h2 => ?_,fun _ => ⟨rfl,?_⟩⟩,fun _ h1 => absurd h17 h1⟩
 ·
  rw [h17] at h1;cases h1
 ·
  rw [hr] at h2;cases h2
 ·
  rw [List.flatMap_append];simpa using h
theorem kread_lt (k:Int) (l:List UInt8):(kread k l).1 < 2 ^ 64:=by
 unfold kread
 split
 ·
  refine kcanon_lt k ?_
  split
  ·
   rcases vread_cases l with ⟨x,n,e,-,-,-,hx⟩ | ⟨c,e,-⟩
   ·
    rw [e];exact hx
   ·
    rw [e];show 0 < _;decide
  ·
   exact wordOf_lt l
 ·
  show 0 < _;decide
theorem pieceW_lt {f:Fld} {l:List UInt8} {x:VW} {y:Nat} (h:y ∈ pieceW f l x):y < 2 ^ 64:=by
 unfold pieceW at h
 split at h
 ·
  unfold runWords at h
  split at h
  ·
   unfold kwords at h
   obtain ⟨z,-,rfl⟩:=List.mem_map.1 h
   exact kread_lt _ _
  ·
   simp at h
 ·
  split at h
  ·
   simp at h;subst h;exact kread_lt _ _
  ·
   simp at h
theorem words_bound {f:Fld} {l:List UInt8} {xs:List VW} (ht:∀ x ∈ xs,Thin x):((counts f xs).flatMap (pieceW f l)).length ≤ vsum xs:=by
 have hc:=counts_sum f xs
 have:=flat_sum (pieceW f l) List.length rfl (fun a b => List.length_append) (counts f xs) fun x hx => piece_words (ht x (counts_sub f xs hx))
 omega
theorem texts_bound {f:Fld} {l:List UInt8} {xs:List VW} (ht:∀ x ∈ xs,Thin x):((counts f xs).flatMap (pieceB f l)).length ≤ vsum xs:=by
 have hc:=counts_sum f xs
 have:=flat_sum (pieceB f l) List.length rfl (fun a b => List.length_append) (counts f xs) fun x hx => by
  have h1:=ht x (counts_sub f xs hx)
  unfold Thin at h1
  have:=@pieceB_len f l x
  omega
 omega
theorem join_bound {l:List UInt8} {xs:List VW} (ht:∀ x ∈ xs,Thin x):(xs.flatMap (vbytes l)).length ≤ vsum xs:=
 flat_sum (vbytes l) List.length rfl (fun a b => List.length_append) xs fun x hx => by
  have h1:=ht x hx
  unfold Thin at h1
  have:=vbytes_len l x
  omega
theorem tsub_len (s:List Mes) (d:Nat) (o:Int) (b:List UInt8):(tsub s d o b).length ≤ 1:=by cases d <;> simp [tsub]
theorem subs_bound {s:List Mes} {d:Nat} {o:Int} {l:List UInt8} {xs:List VW} (ht:∀ x ∈ xs,Thin x):(xs.flatMap fun x => tsub s d o (vbytes l x)).length ≤ vsum xs:=
 flat_sum (fun x => tsub s d o (vbytes l x)) List.length rfl (fun a b => List.length_append) xs fun x hx => by
  have h1:=ht x hx
  unfold Thin at h1
  have:=tsub_len s d o (vbytes l x)
  omega
theorem all_thin (fs:List Fld) (l:List UInt8):∀ x ∈ (vall fs l).1,Thin x:=(vall_sum fs l l.length 0 (Nat.zero_le _)).2
theorem all_vsum (fs:List Fld) (l:List UInt8):vsum (vall fs l).1 ≤ l.length:=by have:=(vall_sum fs l l.length 0 (Nat.zero_le _)).1;unfold vall;omega
theorem vsum_filter (p:VW → Bool):∀ (xs:List VW),vsum (xs.filter p) ≤ vsum xs
 | [] => by simp [vsum]
 | x :: r => by
  have:=vsum_filter p r
  rw [List.filter_cons]
  unfold vsum at *
  split
  ·
   rw [List.map_cons,List.sum_cons,List.map_cons,List.sum_cons];omega
  ·
   rw [List.map_cons,List.sum_cons];omega
theorem part_views (fs:List Fld) (l:List UInt8) (k:Nat) (q:Int):(∀ x ∈ viewsOf ((vall fs l).1.take k) q,Thin x) ∧ vsum (viewsOf ((vall fs l).1.take k) q) ≤ l.length:=by
 refine ⟨fun x hx => all_thin fs l x (List.mem_of_mem_take (viewsOf_mem hx).1),?_⟩
 have h1:=vsum_filter (fun x => decide (x.k = q)) ((vall fs l).1.take k)
 have h2:=all_vsum fs l
 have h3:vsum ((vall fs l).1.take k) ≤ vsum (vall fs l).1:=by
  conv => rhs;rw [← List.take_append_drop k (vall fs l).1,vsum_app]
  omega
 unfold viewsOf
 omega
theorem OfInv.done {s:List Mes} {d:Nat} {f:Fld} {l:List UInt8} {xs:List VW} {B:Nat} {w:World} {j s1 s2 s3:Value} (h:OfInv s d f l xs B w j s1 s2 s3)
  (hrun:∀ x ∈ xs,x.run = true → knumber f.kind = true) (ht:∀ x ∈ xs,Thin x) (hv:vsum xs ≤ 1099511627776) (hl:l.length ≤ 1099511627776) (hn:-9223372036854775808 ≤ f.number ∧ f.number ≤ 9223372036854775807)
  (hc:f.kind = 17 → f.rep = false → xs = []):Apart 0 B w fun w2 => ValP' d w2 [.int .i64 f.number,s1,s2,s3] (fieldV (tsub s d) f l xs):=by
 intro w2 hw2
 have hr:∀ {e:TypeId} {size n:Nat} {v:Value} {ys:List Value},w.ownsRow B e size v n ys → w2.ownsRow B e size v n ys:=fun h => row_keep h fun b _ hb he => hw2 b (Array.getElem?_eq_some_iff.1 he).1 (.inr hb)
 have hnil1:WordsAt w2 noneS []:=⟨row_seg (World.ownsRow_nil w2 0 98 1) (Nat.zero_le _),by simp⟩
 have hnil2:StrsAt w2 noneS []:=⟨row_seg (World.ownsRow_nil w2 0 9 1) (Nat.zero_le _),by simp⟩
 have hnil3:SubsAt (MsgAt d) w2 noneS []:=(RowsOwn.nil (SubP d) 78 2 0 0 w2).at (by simp) fun _ _ _ => rfl
 have hw1:=words_bound (f:=f) (l:=l) ht
 have hw3:=texts_bound (f:=f) (l:=l) ht
 have hW:knumber f.kind = false → (counts f xs).flatMap (pieceW f l) = []:=by
  intro hk
  refine flat_nil _ _ fun x hx => ?_
  unfold pieceW
  have:¬ x.run = true:=fun h => by have:=hrun x (counts_sub f xs hx) h;rw [hk] at this;cases this
  rw [if_neg this,if_neg (by rw [hk];decide)]
 by_cases hk:knumber f.kind = true
 ·
  have h17:f.kind ≠ 17:=by intro e;rw [e] at hk;exact absurd hk (by decide)
  obtain ⟨rfl,rfl,rfl,h4⟩:=h.1 hk
  refine ⟨s1,noneS,noneS,rfl,hn,?_,?_,?_⟩
  ·
   exact ⟨row_seg (hr h4) (Nat.le_trans hw1 (by omega)),fun y hy => by
    obtain ⟨x,-,hx⟩:=List.mem_flatMap.1 (show y ∈ (counts f xs).flatMap (pieceW f l) from hy)
    exact pieceW_lt hx⟩
  ·
   have:(fieldV (tsub s d) f l xs).texts = []:=by
    unfold fieldV
    simp only
    rw [if_neg h17]
    refine flat_nil _ _ fun x _ => ?_
    unfold pieceB
    rw [if_pos (.inr hk)]
   rw [this];exact hnil2
  ·
   have:(fieldV (tsub s d) f l xs).subs = []:=by unfold fieldV;simp only;rw [if_neg h17]
   rw [this];exact hnil3
 ·
  have hk':knumber f.kind = false:=by simpa using hk
  have hww:(fieldV (tsub s d) f l xs).words = []:=hW hk'
  by_cases h17:f.kind = 17
  ·
   obtain ⟨rfl,rfl,h4,h5⟩:=h.2.1 h17
   have htt:(fieldV (tsub s d) f l xs).texts = []:=by unfold fieldV;simp only;rw [if_pos h17]
   refine ⟨noneS,noneS,s3,rfl,hn,by rw [hww];exact hnil1,by rw [htt];exact hnil2,?_⟩
   by_cases hrp:f.rep = true
   ·
    have h6:=(h4 hrp).2
    have hss:(fieldV (tsub s d) f l xs).subs = xs.flatMap fun x => tsub s d f.of (vbytes l x):=by unfold fieldV;simp only;rw [if_pos h17,if_pos hrp]
    rw [hss]
    have hb:=subs_bound (s:=s) (d:=d) (o:=f.of) (l:=l) ht
    exact h6.at (by omega) hw2
   ·
    have hx:=hc h17 (by simpa using hrp)
    obtain ⟨rfl,-⟩:=h5 (by simpa using hrp)
    have hss:(fieldV (tsub s d) f l xs).subs = []:=by unfold fieldV;simp only;rw [if_pos h17,if_neg hrp,if_pos hx]
    rw [hss];exact hnil3
  ·
   obtain ⟨rfl,rfl,rfl,h4⟩:=h.2.2 hk' h17
   refine ⟨noneS,s2,noneS,rfl,hn,by rw [hww];exact hnil1,?_,?_⟩
   ·
    have htt:(fieldV (tsub s d) f l xs).texts = (counts f xs).flatMap (pieceB f l):=by unfold fieldV;simp only;rw [if_neg h17]
    rw [htt]
    refine ⟨row_seg (hr h4) (by omega),fun t htm => ?_⟩
    obtain ⟨x,-,hx⟩:=List.mem_flatMap.1 htm
    unfold pieceB at hx
    split at hx
    ·
     simp at hx
    ·
     simp at hx
     subst hx
     have:=vbytes_len l x
     have:(vbytes l x).length ≤ l.length:=by unfold vbytes part;rw [List.length_take,List.length_drop];omega
     omega
   ·
    have:(fieldV (tsub s d) f l xs).subs = []:=by unfold fieldV;simp only;rw [if_neg h17]
    rw [this];exact hnil3
theorem OfInv.done1 {s:List Mes} {d:Nat} {f:Fld} {l:List UInt8} {xs:List VW} {B b:Nat} {w:World} {u1 u2:Value} {y:M d} (h17:f.kind = 17) (hr:f.rep = false) (hx:xs ≠ []) (hrun:∀ x ∈ xs,x.run = false)
  (hn:-9223372036854775808 ≤ f.number ∧ f.number ≤ 9223372036854775807) (hy:tsub s d f.of (xs.flatMap (vbytes l)) = [y]) (hB:B ≤ b) (hb:Blk w b [u1,u2] 78)
  (hm:Apart 0 B w fun w2 => MsgAt d w2 (.agg #[u1,u2]) y):Apart 0 B w fun w2 => ValP' d w2 [.int .i64 f.number,noneS,noneS,.slice (some ⟨b,0,none⟩) 1 1] (fieldV (tsub s d) f l xs):=by
 intro w2 hw2
 have hww:(fieldV (tsub s d) f l xs).words = []:=by
  refine flat_nil _ _ fun x hx => ?_
  unfold pieceW
  rw [if_neg (by rw [hrun x (counts_sub f xs hx)];decide),if_neg (by rw [h17];decide)]
 have htt:(fieldV (tsub s d) f l xs).texts = []:=by unfold fieldV;simp only;rw [if_pos h17]
 have hss:(fieldV (tsub s d) f l xs).subs = [y]:=by unfold fieldV;simp only;rw [if_pos h17,if_neg (by simp [hr]),if_neg hx,hy]
 have hb2:Blk w2 b [u1,u2] 78:=(hw2 b hb.lt (.inr hB)).trans hb
 refine ⟨noneS,noneS,.slice (some ⟨b,0,none⟩) 1 1,rfl,hn,?_,?_,?_⟩
 ·
  rw [hww];exact ⟨row_seg (World.ownsRow_nil w2 0 98 1) (Nat.zero_le _),by simp⟩
 ·
  rw [htt];exact ⟨row_seg (World.ownsRow_nil w2 0 9 1) (Nat.zero_le _),by simp⟩
 ·
  rw [hss]
  refine ⟨[[u1,u2]],rfl,by simp,seg_blk hb2 2 1 rfl (by omega),fun i r x hr hx => ?_⟩
  cases i with
  | zero => simp at hr hx;subst hr;subst hx;exact hm w2 hw2
  | succ i => simp at hr
end Go.Proofs.YtphkmpnahnakaaaGreat
namespace Go.Proofs.YtphkmpnahnakaaaGreat
open Go.RowKit
end Go.Proofs.YtphkmpnahnakaaaGreat
namespace Go.Proofs.YtphkmpnahnakaaaGreat
open Go.RowKit
theorem kput_pos {k:Int} {x:Nat}:0 < (kput k x).length:=by
 unfold kput
 split
 ·
  rw [little_len];omega
 ·
  split
  ·
   rw [little_len];omega
  ·
   exact vput_pos _
end Go.Proofs.YtphkmpnahnakaaaGreat
namespace Go.Proofs.YtphkmpnahnakaaaGreat
open Go.RowKit
end Go.Proofs.YtphkmpnahnakaaaGreat
namespace Go.Proofs.YtphkmpnahnakaaaGreat
open Go.RowKit
end Go.Proofs.YtphkmpnahnakaaaGreat
namespace Go.Proofs.YtphkmpnahnakaaaGreat
open Go.RowKit
theorem fitsB_ref {α:Type} (R:Int → α → Bool) (f:Fld) (x:Val α):fitsB R f x =
  if (x.words.length + x.texts.length + x.subs.length = 0 ∨ 1 < x.words.length + x.texts.length + x.subs.length ∧ f.rep = false) ∨ kright f.kind = false then false
  else (x.words.all fun w => knumber f.kind && decide (kcanon f.kind w = w)) && (x.texts.all fun t => decide (f.kind = 16) || decide (f.kind = 15) && decide (ufirst t = t.length)) && (x.subs.all fun y => decide (f.kind = 17) && R f.of y):=by
 have hall:∀ {β:Type} (l:List β) (p:β → Bool),l.length ≠ 0 → (∀ a ∈ l,p a = false) → l.all p = false:=by
  intro β l p h1 h2
  cases l with
  | nil => simp at h1
  | cons a t => simp [h2 a (by simp)]
 unfold fitsB
 by_cases h:x.words.length + x.texts.length + x.subs.length = 0 ∨ 1 < x.words.length + x.texts.length + x.subs.length ∧ f.rep = false
 ·
  rw [if_pos h,if_pos (.inl h)]
 ·
  rw [if_neg h]
  obtain ⟨num,ws,ts,ss⟩:=x
  simp only at h ⊢
  by_cases hk:knumber f.kind = true
  ·
   have hk':1 ≤ f.kind ∧ f.kind ≤ 14:=of_decide_eq_true hk
   have hkr:kright f.kind = true:=decide_eq_true (by omega)
   rw [if_pos hk,if_neg (by rintro (h' | h');exact h h';rw [hkr] at h';simp at h'),hk]
   by_cases h1:ts.length = 0 ∧ ss.length = 0
   ·
    rw [decide_eq_true h1]
    obtain ⟨h1,h2⟩:=h1
    rw [List.length_eq_zero_iff] at h1 h2
    subst h1;subst h2
    simp
   ·
    rw [decide_eq_false h1,Bool.false_and]
    rw [eq_comm,Bool.and_eq_false_iff,Bool.and_eq_false_iff]
    by_cases h2:ts.length = 0
    ·
     exact .inr (hall _ _ (fun h3 => h1 ⟨h2,h3⟩) (fun a _ => by rw [decide_eq_false (by omega)];rfl))
    ·
     exact .inl (.inr (hall _ _ h2 (fun a _ => by rw [decide_eq_false (by omega),decide_eq_false (by omega)];rfl)))
  ·
   rw [if_neg hk]
   have hkf:knumber f.kind = false:=by simpa using hk
   have hk':¬ (1 ≤ f.kind ∧ f.kind ≤ 14):=of_decide_eq_false hkf
   rw [hkf]
   have hw:∀ {b c:Bool},ws.length ≠ 0 → ((ws.all fun w => false && decide (kcanon f.kind w = w)) && b && c) = false:=by
    intro b c h1
    have:(ws.all fun w => false && decide (kcanon f.kind w = w)) = false:=hall ws _ h1 (fun _ _ => rfl)
    rw [this];rfl
   by_cases h17:f.kind = 17
   ·
    rw [if_pos h17,if_neg (by rintro (h' | h');exact h h';unfold kright at h';have:=of_decide_eq_false h';omega)]
    by_cases h1:ws.length = 0 ∧ ts.length = 0
    ·
     rw [decide_eq_true h1]
     obtain ⟨h1,h2⟩:=h1
     rw [List.length_eq_zero_iff] at h1 h2
     subst h1;subst h2
     simp [h17]
    ·
     rw [decide_eq_false h1,Bool.false_and]
     by_cases h2:ws.length = 0
     ·
      rw [eq_comm,Bool.and_eq_false_iff,Bool.and_eq_false_iff]
      exact .inl (.inr (hall _ _ (fun h3 => h1 ⟨h2,h3⟩) (fun a _ => by rw [decide_eq_false (by omega),decide_eq_false (by omega)];rfl)))
     ·
      rw [hw h2]
   ·
    rw [if_neg h17]
    have hs:∀ {b:Bool},ss.length ≠ 0 → (b && (ss.all fun y => decide (f.kind = 17) && R f.of y)) = false:=by
     intro b h1
     rw [hall ss _ h1 (fun _ _ => by rw [decide_eq_false h17];rfl),Bool.and_false]
    by_cases h15:f.kind = 15
    ·
     rw [if_pos h15,if_neg (by rintro (h' | h');exact h h';unfold kright at h';have:=of_decide_eq_false h';omega)]
     by_cases h1:ws.length = 0 ∧ ss.length = 0
     ·
      rw [decide_eq_true h1]
      obtain ⟨h1,h2⟩:=h1
      rw [List.length_eq_zero_iff] at h1 h2
      subst h1;subst h2
      simp [h15]
     ·
      rw [decide_eq_false h1,Bool.false_and]
      by_cases h2:ws.length = 0
      ·
       rw [hs (fun h3 => h1 ⟨h2,h3⟩)]
      ·
       rw [hw h2]
    ·
     rw [if_neg h15]
     by_cases h16:f.kind = 16
     ·
      rw [if_neg (by rintro (h' | h');exact h h';unfold kright at h';have:=of_decide_eq_false h';omega)]
      by_cases h1:ws.length = 0 ∧ ss.length = 0
      ·
       rw [decide_eq_true h1,decide_eq_true h16]
       obtain ⟨h1,h2⟩:=h1
       rw [List.length_eq_zero_iff] at h1 h2
       subst h1;subst h2
       simp
      ·
       rw [decide_eq_false h1,Bool.and_false]
       by_cases h2:ws.length = 0
       ·
        rw [hs (fun h3 => h1 ⟨h2,h3⟩)]
       ·
        rw [hw h2]
     ·
      rw [decide_eq_false h16,Bool.false_and,if_pos (.inr (decide_eq_false (by omega)))]
set_option maxRecDepth 100000 in
set_option maxHeartbeats 4000000 in
theorem ref14_Many (num:Int) (a1 a2 a3:Option Addr) (n1 n2 n3 c1 c2 c3:Nat) (h1:n1 ≤ 140737488355328) (h2:n2 ≤ 140737488355328) (h3:n3 ≤ 140737488355328) (w:World) :
  Calls Tryz.prog 41 #[.agg #[.int .i64 num,.slice a1 n1 c1,.slice a2 n2 c2,.slice a3 n3 c3]] w fun e w' => e = .returned (.int .i64 ((n1 + n2 + n3:Nat):Int)) ∧ Below w.heap.size w w':=by
 go_enter Tryz.func41,Tryz.ntmps41
 go_wp2
 go_ret
 exact ⟨ret1 (int_eq (by omega)),by (repeat (first | with_reducible exact Below.refl _ _ | with_reducible refine Below.setCell ?_ (by first | omega | (simp;omega) | (simp;done)) _ | with_reducible refine Below.alloc ?_ (by first | omega | (simp;omega) | (simp;done)) _ | with_reducible refine below_drewN ?_ _ | with_reducible refine Below.drew ?_))⟩
theorem size_rmsg (w:World):(sizeOf 78).run Tryz.prog w = .ok 2 w:=by kernel_rfl
theorem size_rval (w:World):(sizeOf 93).run Tryz.prog w = .ok 4 w:=by kernel_rfl
end Go.Proofs.YtphkmpnahnakaaaGreat
namespace Go.Proofs.YtphkmpnahnakaaaGreat
open Go.RowKit
theorem sright_num {s:List Mes} (h:sright s = true) (m:Nat) (hm:m < s.length) (f:Fld) (hf:f ∈ (s.getD m .zero).fields):1 ≤ f.number ∧ f.number ≤ 536870911:=by
 have h0:(scheck s).2.2 = 0:=of_decide_eq_true h
 unfold scheck at h0
 by_cases h1:s.length = 0 ∨ 100 < s.length
 ·
  rw [if_pos h1] at h0;simp at h0
 rw [if_neg h1] at h0
 have hmem:s.getD m .zero ∈ s:=by
  have:s.getD m .zero = s[m]:=by simp [List.getD,hm]
  rw [this];exact List.getElem_mem hm
 obtain ⟨h2,-,-⟩:=scheckGo_ok s [] 0 h0 _ hmem
 obtain ⟨nm,nu,h3⟩:=fieldsFault_none _ _ _ h2 f hf
 obtain ⟨-,-,h4,-⟩:=fieldFault_ok h3
 have h5:=of_decide_eq_true h4
 omega
end Go.Proofs.YtphkmpnahnakaaaGreat
namespace Go.Proofs.YtphkmpnahnakaaaGreat
open Go.RowKit
end Go.Proofs.YtphkmpnahnakaaaGreat
namespace Go.Proofs.YtphkmpnahnakaaaGreat
open Go.RowKit
structure WrStep (g:Nat) (bv:Value) (w:World) (bv':Value) (w':World):Prop where
 os:w'.os = w.os
 tape:w'.tape = w.tape
 output:w'.output = w.output
 size:w.heap.size ≤ w'.heap.size
 keep:∀ b,b < w.heap.size → b ≠ g → bv.ownBlock ≠ some b → w'.heap[b]? = w.heap[b]?
 own:bv'.ownBlock = bv.ownBlock ∨ bv'.ownBlock = none ∨ ∃ k,w.heap.size ≤ k ∧ bv'.ownBlock = some k
end Go.Proofs.YtphkmpnahnakaaaGreat
namespace Go.Proofs.YtphkmpnahnakaaaGreat
open Go.RowKit
theorem fits_num {α:Type} {R:Int → α → Bool} {f:Fld} {x:Val α} (h:fitsB R f x = true) (hk:knumber f.kind = true) :
  x.texts = [] ∧ x.subs = [] ∧ 1 ≤ x.words.length ∧ (f.rep = false → x.words.length = 1):=by
 unfold fitsB at h
 by_cases h1:x.words.length + x.texts.length + x.subs.length = 0 ∨ 1 < x.words.length + x.texts.length + x.subs.length ∧ f.rep = false
 ·
  rw [if_pos h1] at h;exact absurd h (by decide)
 ·
  rw [if_neg h1,if_pos hk,Bool.and_eq_true] at h
  have h2:=of_decide_eq_true h.1
  refine ⟨List.length_eq_zero_iff.1 h2.1,List.length_eq_zero_iff.1 h2.2,by omega,fun hr => ?_⟩
  rcases Nat.lt_or_ge 1 x.words.length with h3 | h3
  ·
   exact absurd (.inr ⟨by omega,hr⟩) h1
  ·
   omega
theorem fits_kind {α:Type} {R:Int → α → Bool} {f:Fld} {x:Val α} (h:fitsB R f x = true):kright f.kind = true:=by
 rw [fitsB_ref] at h
 by_cases hk:kright f.kind = true
 ·
  exact hk
 ·
  rw [if_pos (.inr (by simpa using hk))] at h
  exact absurd h (by decide)
def encN (f:Fld) (ws:List Nat):List UInt8:=if knumber f.kind = true then (if f.rep = true then rput f.number 2 (kpack f.kind ws) else rput f.number (kwire f.kind) (kput f.kind (ws.getD 0 0))) else []
theorem encV_parts {α:Type} (E:Int → α → List UInt8) (f:Fld) (x:Val α) (h:knumber f.kind = true → x.texts = [] ∧ x.subs = []) :
  encV E f x = encN f x.words ++ (x.texts.flatMap (rput f.number 2) ++ x.subs.flatMap fun y => rput f.number 2 (E f.of y)):=by
 unfold encV encN
 by_cases hk:knumber f.kind = true
 ·
  obtain ⟨h1,h2⟩:=h hk
  rw [if_pos hk,if_pos hk,h1,h2]
  simp
 ·
  rw [if_neg hk,if_neg hk]
  simp
theorem flat_take_len {α:Type} (f:α → List UInt8) (l:List α) (k:Nat):((l.take k).flatMap f).length ≤ (l.flatMap f).length:=by
 conv => rhs;rw [← List.take_append_drop k l]
 rw [List.flatMap_append,List.length_append]
 omega
theorem flat_take_succ {α:Type} (f:α → List UInt8) (l:List α) (k:Nat) (x:α) (h:l[k]? = some x):(l.take (k + 1)).flatMap f = (l.take k).flatMap f ++ f x:=by
 rw [List.take_add_one,h,List.flatMap_append]
 simp
theorem fits_subs {α:Type} {R:Int → α → Bool} {f:Fld} {x:Val α} (h:fitsB R f x = true) {y:α} (hy:y ∈ x.subs):knumber f.kind = false ∧ R f.of y = true:=by
 have hl:x.subs.length ≠ 0:=fun e => by rw [List.length_eq_zero_iff.1 e] at hy;simp at hy
 unfold fitsB at h
 by_cases h1:x.words.length + x.texts.length + x.subs.length = 0 ∨ 1 < x.words.length + x.texts.length + x.subs.length ∧ f.rep = false
 ·
  rw [if_pos h1] at h;exact absurd h (by decide)
 ·
  rw [if_neg h1] at h
  by_cases hk:knumber f.kind = true
  ·
   rw [if_pos hk,Bool.and_eq_true] at h
   exact absurd (of_decide_eq_true h.1).2 hl
  ·
   rw [if_neg hk] at h
   refine ⟨by simpa using hk,?_⟩
   by_cases h17:f.kind = 17
   ·
    rw [if_pos h17,Bool.and_eq_true] at h
    exact List.all_eq_true.1 h.2 y hy
   ·
    rw [if_neg h17] at h
    by_cases h15:f.kind = 15
    ·
     rw [if_pos h15,Bool.and_eq_true] at h
     exact absurd (of_decide_eq_true h.1).2 hl
    ·
     rw [if_neg h15,Bool.and_eq_true] at h
     exact absurd (of_decide_eq_true h.2).2 hl
theorem msg_form {d:Nat} {w:World} {v1 v2:Value} {x:M d} (h:MsgAt d w (.agg #[v1,v2]) x):∃ a n c a' n' c',v1 = .slice a n c ∧ v2 = .slice a' n' c':=by
 cases d with
 | zero => exact h.elim
 | succ d =>
  obtain ⟨vv,uv,e,hV,hU⟩:=h
  cases e
  obtain ⟨-,va,vc,rfl,-,-⟩:=hV.open
  obtain ⟨-,ua,uc,rfl,-,-⟩:=hU.open
  exact ⟨_,_,_,_,_,_,rfl,rfl⟩
theorem wire_two {k:Int} (h:kright k = true) (hk:knumber k = false):kwire k = 2:=by
 unfold kright at h
 unfold knumber at hk
 simp at h hk
 unfold kwire
 rw [if_neg (by omega),if_pos (by omega)]
end Go.Proofs.YtphkmpnahnakaaaGreat
namespace Go.Proofs.YtphkmpnahnakaaaGreat
open Go.RowKit
theorem rfits2 (t:List UInt8):rfits ((2:Nat):Int) t = true:=by unfold rfits;simp
end Go.Proofs.YtphkmpnahnakaaaGreat
