/- Parts of a proof: texts of the author, merged. No condition of their own. -/
import Derived.Test.YtfimpmennkfjcaaGreatDoorZ15
import Derived.Test.YtfimpmennkfjcaaGreatDoorZ16
import Derived.Test.YtfimpmennkfjcaaGreatDoorZ18
import Derived.Test.YtfimpmennkfjcaaGreatDoorZ19
import Derived.StillTailTactics
import Derived.BigQuiet
namespace Go.Proofs.YtfimpmennkfjcaaGreatDoor
open Go.RowKit Go.Shelf
abbrev noneS:Value:=.slice none 0 0
def OfInv (s:List Mes) (d:Nat) (f:Fld) (l:List UInt8) (xs:List VW) (B:Nat) (w:World) (j s1 s2 s3:Value):Prop:=
 (knumber f.kind = true → s2 = noneS ∧ s3 = noneS ∧ j = noneS ∧ WordsOwn w B s1 ((counts f xs).flatMap (pieceW f l))) ∧
 (f.kind = 17 → s1 = noneS ∧ s2 = noneS ∧
  (f.rep = true → j = noneS ∧ RowsOwn (SubP d) 45 2 0 B w s3 (xs.flatMap fun x => tsub s d f.of (vbytes l x))) ∧
  (f.rep = false → s3 = noneS ∧ Own w B j (xs.flatMap (vbytes l)))) ∧
 (knumber f.kind = false → f.kind ≠ 17 → s1 = noneS ∧ s3 = noneS ∧ j = noneS ∧ StrsOwn w B s2 ((counts f xs).flatMap (pieceB f l)))
theorem own_form {w:World} {base:Nat} {v:Value} {l:List UInt8} (h:Own w base v l):∃ a c,v = .slice a l.length c:=by
 rcases h.2 with ⟨h1,h2⟩ | ⟨g,cap,cur,hv,-⟩
 ·
  exact ⟨none,0,by rw [h1,h2]⟩
 ·
  exact ⟨_,_,hv⟩
theorem OfInv.start (s:List Mes) (d:Nat) (f:Fld) (l:List UInt8) (B:Nat) (w:World):OfInv s d f l [] B w noneS noneS noneS noneS:=by
 have hc:counts f ([]:List VW) = []:=by unfold counts;split <;> rfl
 refine ⟨fun _ => ⟨rfl,rfl,rfl,?_⟩,fun _ => ⟨rfl,rfl,fun _ => ⟨rfl,RowsOwn.nil _ _ _ _ _ _⟩,fun _ => ⟨rfl,own_nil _ _⟩⟩,fun _ _ => ⟨rfl,rfl,rfl,?_⟩⟩
 ·
  rw [hc];exact World.ownsRow_nil _ _ _ _
 ·
  rw [hc];exact World.ownsRow_nil _ _ _ _
theorem OfInv.keep {s:List Mes} {d:Nat} {f:Fld} {l:List UInt8} {xs:List VW} {B:Nat} {w w':World} {j s1 s2 s3:Value} (h:OfInv s d f l xs B w j s1 s2 s3)
  (hk:∀ b,B ≤ b → b < w.heap.size → w'.heap[b]? = w.heap[b]?) (hs:w.heap.size ≤ w'.heap.size):OfInv s d f l xs B w' j s1 s2 s3:=by
 have hr:∀ {e:TypeId} {size n:Nat} {v:Value} {ys:List Value},w.ownsRow B e size v n ys → w'.ownsRow B e size v n ys:=fun h => row_keep h fun b _ hb he => hk b hb (Array.getElem?_eq_some_iff.1 he).1
 refine ⟨fun h1 => ?_,fun h1 => ?_,fun h1 h2 => ?_⟩
 ·
  obtain ⟨g1,g2,g3,g4⟩:=h.1 h1
  exact ⟨g1,g2,g3,hr g4⟩
 ·
  obtain ⟨g1,g2,g3,g4⟩:=h.2.1 h1
  exact ⟨g1,g2,fun hr => ⟨(g3 hr).1,(g3 hr).2.later (fun b hlt hc => hk b (by omega) hlt) hs⟩,fun hr' => ⟨(g4 hr').1,hr (g4 hr').2⟩⟩
 ·
  obtain ⟨g1,g2,g3,g4⟩:=h.2.2 h1 h2
  exact ⟨g1,g2,g3,hr g4⟩
theorem counts_flat {α β:Type} (f:Fld) (xs:List α) (x:α) (g:α → List β):(counts f (xs ++ [x])).flatMap g = (if f.rep = true then (counts f xs).flatMap g else []) ++ g x:=by
 rw [counts_snoc,List.flatMap_append]
 by_cases h:f.rep = true
 ·
  rw [if_pos h,if_pos h];unfold counts;rw [if_pos h];simp
 ·
  rw [if_neg h,if_neg h];simp
theorem OfInv.num {s:List Mes} {d:Nat} {f:Fld} {l:List UInt8} {xs:List VW} {B:Nat} {w:World} {v:Value} {x:VW} (hk:knumber f.kind = true) (ws:List Nat) (hw:(if f.rep = true then (counts f xs).flatMap (pieceW f l) else []) ++ pieceW f l x = ws) (h:WordsOwn w B v ws) :
  OfInv s d f l (xs ++ [x]) B w noneS v noneS noneS:=by
 refine ⟨fun _ => ⟨rfl,rfl,rfl,?_⟩,fun h1 => ?_,fun h1 => ?_⟩
 ·
  rw [counts_flat,hw];exact h
 ·
  rw [h1] at hk;exact absurd hk (by decide)
 ·
  rw [h1] at hk;cases hk
theorem OfInv.text {s:List Mes} {d:Nat} {f:Fld} {l:List UInt8} {xs:List VW} {B:Nat} {w:World} {v:Value} {x:VW} (hk:knumber f.kind = false) (h17:f.kind ≠ 17) (hx:x.run = false) (h:StrsOwn w B v ((if f.rep = true then (counts f xs).flatMap (pieceB f l) else []) ++ [vbytes l x])) :
  OfInv s d f l (xs ++ [x]) B w noneS noneS v noneS:=by
 refine ⟨fun h1 => ?_,fun h1 => absurd h1 h17,fun _ _ => ⟨rfl,rfl,rfl,?_⟩⟩
 ·
  rw [h1] at hk;cases hk
 ·
  rw [counts_flat]
  unfold pieceB at h ⊢
  rw [if_neg (show ¬ (x.run = true ∨ knumber f.kind = true) by rw [hx,hk];simp)]
  exact h
theorem OfInv.sub {s:List Mes} {d:Nat} {f:Fld} {l:List UInt8} {xs:List VW} {B:Nat} {w:World} {v:Value} {x:VW} (h17:f.kind = 17) (hr:f.rep = true)
  (h:RowsOwn (SubP d) 45 2 0 B w v ((xs.flatMap fun x => tsub s d f.of (vbytes l x)) ++ tsub s d f.of (vbytes l x))):OfInv s d f l (xs ++ [x]) B w noneS noneS noneS v:=by
 refine ⟨fun h1 => ?_,fun _ => ⟨rfl,rfl,fun _ => ⟨rfl,?_⟩,fun h2 => ?_⟩,fun _ h1 => absurd h17 h1⟩
 ·
  rw [h17] at h1;cases h1
 ·
  rw [List.flatMap_append];simpa using h
 ·
  rw [hr] at h2;cases h2
theorem OfInv.join {s:List Mes} {d:Nat} {f:Fld} {l:List UInt8} {xs:List VW} {B:Nat} {w:World} {v:Value} {x:VW} (h17:f.kind = 17) (hr:f.rep = false)
  (h:Own w B v (xs.flatMap (vbytes l) ++ vbytes l x)):OfInv s d f l (xs ++ [x]) B w v noneS noneS noneS:=by
 refine ⟨fun h1 => ?_,fun _ => ⟨rfl,rfl,fun h2 => ?_,fun _ => ⟨rfl,?_⟩⟩,fun _ h1 => absurd h17 h1⟩
 ·
  rw [h17] at h1;cases h1
 ·
  rw [hr] at h2;cases h2
 ·
  rw [List.flatMap_append];simpa using h
theorem kread_lt (k:Int) (l:List UInt8):(kread k l).1 < 2 ^ 64:=by
 unfold kread
 split
 ·
  refine kcanon_lt k ?_
  split
  ·
   rcases vread_cases l with ⟨x,n,e,-,-,-,hx⟩ | ⟨c,e,-⟩
   ·
    rw [e];exact hx
   ·
    rw [e];show 0 < _;decide
  ·
   exact wordOf_lt l
 ·
  show 0 < _;decide
theorem pieceW_lt {f:Fld} {l:List UInt8} {x:VW} {y:Nat} (h:y ∈ pieceW f l x):y < 2 ^ 64:=by
 unfold pieceW at h
 split at h
 ·
  unfold runWords at h
  split at h
  ·
   unfold kwords at h
   obtain ⟨z,-,rfl⟩:=List.mem_map.1 h
   exact kread_lt _ _
  ·
   simp at h
 ·
  split at h
  ·
   simp at h;subst h;exact kread_lt _ _
  ·
   simp at h
theorem words_bound {f:Fld} {l:List UInt8} {xs:List VW} (ht:∀ x ∈ xs,Thin x):((counts f xs).flatMap (pieceW f l)).length ≤ vsum xs:=by
 have hc:=counts_sum f xs
 have:=flat_sum (pieceW f l) List.length rfl (fun a b => List.length_append) (counts f xs) fun x hx => piece_words (ht x (counts_sub f xs hx))
 omega
theorem texts_bound {f:Fld} {l:List UInt8} {xs:List VW} (ht:∀ x ∈ xs,Thin x):((counts f xs).flatMap (pieceB f l)).length ≤ vsum xs:=by
 have hc:=counts_sum f xs
 have:=flat_sum (pieceB f l) List.length rfl (fun a b => List.length_append) (counts f xs) fun x hx => by
  have h1:=ht x (counts_sub f xs hx)
  unfold Thin at h1
  have:=@pieceB_len f l x
  omega
 omega
theorem join_bound {l:List UInt8} {xs:List VW} (ht:∀ x ∈ xs,Thin x):(xs.flatMap (vbytes l)).length ≤ vsum xs:=
 flat_sum (vbytes l) List.length rfl (fun a b => List.length_append) xs fun x hx => by
  have h1:=ht x hx
  unfold Thin at h1
  have:=vbytes_len l x
  omega
theorem tsub_len (s:List Mes) (d:Nat) (o:Int) (b:List UInt8):(tsub s d o b).length ≤ 1:=by cases d <;> simp [tsub]
theorem subs_bound {s:List Mes} {d:Nat} {o:Int} {l:List UInt8} {xs:List VW} (ht:∀ x ∈ xs,Thin x):(xs.flatMap fun x => tsub s d o (vbytes l x)).length ≤ vsum xs:=
 flat_sum (fun x => tsub s d o (vbytes l x)) List.length rfl (fun a b => List.length_append) xs fun x hx => by
  have h1:=ht x hx
  unfold Thin at h1
  have:=tsub_len s d o (vbytes l x)
  omega
theorem all_thin (fs:List Fld) (l:List UInt8):∀ x ∈ (vall fs l).1,Thin x:=(vall_sum fs l l.length 0 (Nat.zero_le _)).2
theorem all_vsum (fs:List Fld) (l:List UInt8):vsum (vall fs l).1 ≤ l.length:=by have:=(vall_sum fs l l.length 0 (Nat.zero_le _)).1;unfold vall;omega
theorem vsum_filter (p:VW → Bool):∀ (xs:List VW),vsum (xs.filter p) ≤ vsum xs
 | [] => by simp [vsum]
 | x :: r => by
  have:=vsum_filter p r
  rw [List.filter_cons]
  unfold vsum at *
  split
  ·
   rw [List.map_cons,List.sum_cons,List.map_cons,List.sum_cons];omega
  ·
   rw [List.map_cons,List.sum_cons];omega
theorem part_views (fs:List Fld) (l:List UInt8) (k:Nat) (q:Int):(∀ x ∈ viewsOf ((vall fs l).1.take k) q,Thin x) ∧ vsum (viewsOf ((vall fs l).1.take k) q) ≤ l.length:=by
 refine ⟨fun x hx => all_thin fs l x (List.mem_of_mem_take (viewsOf_mem hx).1),?_⟩
 have h1:=vsum_filter (fun x => decide (x.k = q)) ((vall fs l).1.take k)
 have h2:=all_vsum fs l
 have h3:vsum ((vall fs l).1.take k) ≤ vsum (vall fs l).1:=by
  conv => rhs;rw [← List.take_append_drop k (vall fs l).1,vsum_app]
  omega
 unfold viewsOf
 omega
theorem OfInv.done {s:List Mes} {d:Nat} {f:Fld} {l:List UInt8} {xs:List VW} {B:Nat} {w:World} {j s1 s2 s3:Value} (h:OfInv s d f l xs B w j s1 s2 s3)
  (hrun:∀ x ∈ xs,x.run = true → knumber f.kind = true) (ht:∀ x ∈ xs,Thin x) (hv:vsum xs ≤ 1099511627776) (hl:l.length ≤ 1099511627776) (hn:-9223372036854775808 ≤ f.number ∧ f.number ≤ 9223372036854775807)
  (hc:f.kind = 17 → f.rep = false → xs = []):Apart 0 B w fun w2 => ValP' d w2 [.int .i64 f.number,s1,s2,s3] (fieldV (tsub s d) f l xs):=by
 intro w2 hw2
 have hr:∀ {e:TypeId} {size n:Nat} {v:Value} {ys:List Value},w.ownsRow B e size v n ys → w2.ownsRow B e size v n ys:=fun h => row_keep h fun b _ hb he => hw2 b (Array.getElem?_eq_some_iff.1 he).1 (.inr hb)
 have hnil1:WordsAt w2 noneS []:=⟨row_seg (World.ownsRow_nil w2 0 86 1) (Nat.zero_le _),by simp⟩
 have hnil2:StrsAt w2 noneS []:=⟨row_seg (World.ownsRow_nil w2 0 9 1) (Nat.zero_le _),by simp⟩
 have hnil3:SubsAt (MsgAt d) w2 noneS []:=(RowsOwn.nil (SubP d) 45 2 0 0 w2).at (by simp) fun _ _ _ => rfl
 have hw1:=words_bound (f:=f) (l:=l) ht
 have hw3:=texts_bound (f:=f) (l:=l) ht
 have hW:knumber f.kind = false → (counts f xs).flatMap (pieceW f l) = []:=by
  intro hk
  refine flat_nil _ _ fun x hx => ?_
  unfold pieceW
  have:¬ x.run = true:=fun h => by have:=hrun x (counts_sub f xs hx) h;rw [hk] at this;cases this
  rw [if_neg this,if_neg (by rw [hk];decide)]
 by_cases hk:knumber f.kind = true
 ·
  have h17:f.kind ≠ 17:=by intro e;rw [e] at hk;exact absurd hk (by decide)
  obtain ⟨rfl,rfl,rfl,h4⟩:=h.1 hk
  refine ⟨s1,noneS,noneS,rfl,hn,?_,?_,?_⟩
  ·
   exact ⟨row_seg (hr h4) (Nat.le_trans hw1 (by omega)),fun y hy => by
    obtain ⟨x,-,hx⟩:=List.mem_flatMap.1 (show y ∈ (counts f xs).flatMap (pieceW f l) from hy)
    exact pieceW_lt hx⟩
  ·
   have:(fieldV (tsub s d) f l xs).texts = []:=by
    unfold fieldV
    simp only
    rw [if_neg h17]
    refine flat_nil _ _ fun x _ => ?_
    unfold pieceB
    rw [if_pos (.inr hk)]
   rw [this];exact hnil2
  ·
   have:(fieldV (tsub s d) f l xs).subs = []:=by unfold fieldV;simp only;rw [if_neg h17]
   rw [this];exact hnil3
 ·
  have hk':knumber f.kind = false:=by simpa using hk
  have hww:(fieldV (tsub s d) f l xs).words = []:=hW hk'
  by_cases h17:f.kind = 17
  ·
   obtain ⟨rfl,rfl,h4,h5⟩:=h.2.1 h17
   have htt:(fieldV (tsub s d) f l xs).texts = []:=by unfold fieldV;simp only;rw [if_pos h17]
   refine ⟨noneS,noneS,s3,rfl,hn,by rw [hww];exact hnil1,by rw [htt];exact hnil2,?_⟩
   by_cases hrp:f.rep = true
   ·
    have h6:=(h4 hrp).2
    have hss:(fieldV (tsub s d) f l xs).subs = xs.flatMap fun x => tsub s d f.of (vbytes l x):=by unfold fieldV;simp only;rw [if_pos h17,if_pos hrp]
    rw [hss]
    have hb:=subs_bound (s:=s) (d:=d) (o:=f.of) (l:=l) ht
    exact h6.at (by omega) hw2
   ·
    have hx:=hc h17 (by simpa using hrp)
    obtain ⟨rfl,-⟩:=h5 (by simpa using hrp)
    have hss:(fieldV (tsub s d) f l xs).subs = []:=by unfold fieldV;simp only;rw [if_pos h17,if_neg hrp,if_pos hx]
    rw [hss];exact hnil3
  ·
   obtain ⟨rfl,rfl,rfl,h4⟩:=h.2.2 hk' h17
   refine ⟨noneS,s2,noneS,rfl,hn,by rw [hww];exact hnil1,?_,?_⟩
   ·
    have htt:(fieldV (tsub s d) f l xs).texts = (counts f xs).flatMap (pieceB f l):=by unfold fieldV;simp only;rw [if_neg h17]
    rw [htt]
    refine ⟨row_seg (hr h4) (by omega),fun t htm => ?_⟩
    obtain ⟨x,-,hx⟩:=List.mem_flatMap.1 htm
    unfold pieceB at hx
    split at hx
    ·
     simp at hx
    ·
     simp at hx
     subst hx
     have:=vbytes_len l x
     have:(vbytes l x).length ≤ l.length:=by unfold vbytes part;rw [List.length_take,List.length_drop];omega
     omega
   ·
    have:(fieldV (tsub s d) f l xs).subs = []:=by unfold fieldV;simp only;rw [if_neg h17]
    rw [this];exact hnil3
theorem OfInv.done1 {s:List Mes} {d:Nat} {f:Fld} {l:List UInt8} {xs:List VW} {B b:Nat} {w:World} {u1 u2:Value} {y:M d} (h17:f.kind = 17) (hr:f.rep = false) (hx:xs ≠ []) (hrun:∀ x ∈ xs,x.run = false)
  (hn:-9223372036854775808 ≤ f.number ∧ f.number ≤ 9223372036854775807) (hy:tsub s d f.of (xs.flatMap (vbytes l)) = [y]) (hB:B ≤ b) (hb:Blk w b [u1,u2] 45)
  (hm:Apart 0 B w fun w2 => MsgAt d w2 (.agg #[u1,u2]) y):Apart 0 B w fun w2 => ValP' d w2 [.int .i64 f.number,noneS,noneS,.slice (some ⟨b,0,none⟩) 1 1] (fieldV (tsub s d) f l xs):=by
 intro w2 hw2
 have hww:(fieldV (tsub s d) f l xs).words = []:=by
  refine flat_nil _ _ fun x hx => ?_
  unfold pieceW
  rw [if_neg (by rw [hrun x (counts_sub f xs hx)];decide),if_neg (by rw [h17];decide)]
 have htt:(fieldV (tsub s d) f l xs).texts = []:=by unfold fieldV;simp only;rw [if_pos h17]
 have hss:(fieldV (tsub s d) f l xs).subs = [y]:=by unfold fieldV;simp only;rw [if_pos h17,if_neg (by simp [hr]),if_neg hx,hy]
 have hb2:Blk w2 b [u1,u2] 45:=(hw2 b hb.lt (.inr hB)).trans hb
 refine ⟨noneS,noneS,.slice (some ⟨b,0,none⟩) 1 1,rfl,hn,?_,?_,?_⟩
 ·
  rw [hww];exact ⟨row_seg (World.ownsRow_nil w2 0 86 1) (Nat.zero_le _),by simp⟩
 ·
  rw [htt];exact ⟨row_seg (World.ownsRow_nil w2 0 9 1) (Nat.zero_le _),by simp⟩
 ·
  rw [hss]
  refine ⟨[[u1,u2]],rfl,by simp,seg_blk hb2 2 1 rfl (by omega),fun i r x hr hx => ?_⟩
  cases i with
  | zero => simp at hr hx;subst hr;subst hx;exact hm w2 hw2
  | succ i => simp at hr
end Go.Proofs.YtfimpmennkfjcaaGreatDoor
namespace Go.Proofs.YtfimpmennkfjcaaGreatDoor
open Go.RowKit
structure AR where
 k:Int
 run:Bool
 val:List UInt8
 whole:List UInt8
def arOf (l:List UInt8) (x:VW):AR:=⟨x.k,x.run,vbytes l x,part l x.r.start x.r.to⟩
def arecs (fs:List Fld) (l:List UInt8):List AR:=(vall fs l).1.map (arOf l)
theorem part_ahead {p:List UInt8} (l:List UInt8) {i j:Nat} (h:j ≤ p.length):part (p ++ l) i j = part p i j:=by
 by_cases hij:i ≤ j
 ·
  exact part_app l h hij
 ·
  unfold part
  rw [show j - i = 0 by omega,List.take_zero,List.take_zero]
theorem vallGo_end (fs:List Fld) (l:List UInt8) (n i:Nat) (h:l.length ≤ i):vallGo fs l n i = ([],0,0):=by
 cases n with
 | zero => rfl
 | succ n => rw [vallGo,if_pos h]
theorem vallGo_next (fs:List Fld) (l:List UInt8) (n i:Nat) (h:¬ l.length ≤ i) (hc:(vlook fs l i).2.2.2 = 0):vallGo fs l (n + 1) i =
  if (vallGo fs l n (vlook fs l i).1.to).2.2 ≠ 0 then ([],(vallGo fs l n (vlook fs l i).1.to).2.1,(vallGo fs l n (vlook fs l i).1.to).2.2) else (⟨(vlook fs l i).1,(vlook fs l i).2.1,(vlook fs l i).2.2.1⟩ :: (vallGo fs l n (vlook fs l i).1.to).1,0,0):=by
 rw [vallGo,if_neg h,if_neg (by omega)]
theorem vallGo_behind (fs:List Fld) (p l:List UInt8):∀ (n i N:Nat),l.length ≤ n + i → l.length ≤ N + i → (vallGo fs l n i).2.2 = 0 →
  (vallGo fs (p ++ l) N (p.length + i)).2.2 = 0 ∧ (vallGo fs (p ++ l) N (p.length + i)).1.map (arOf (p ++ l)) = (vallGo fs l n i).1.map (arOf l)
 | 0,i,N,hn,hN,_ => by
  rw [vallGo_end fs (p ++ l) N _ (by rw [List.length_append];omega),vallGo_end fs l 0 i (by omega)]
  exact ⟨rfl,rfl⟩
 | n + 1,i,N,hn,hN,h => by
  by_cases hi:l.length ≤ i
  ·
   rw [vallGo_end fs (p ++ l) N _ (by rw [List.length_append];omega),vallGo_end fs l (n + 1) i hi]
   exact ⟨rfl,rfl⟩
  obtain ⟨N,rfl⟩:∃ N',N = N' + 1:=⟨N - 1,by omega⟩
  by_cases hc:(vlook fs l i).2.2.2 = 0
  ·
   have hs:=vlook_shift fs p l hc
   have hto:=vlook_to fs l i hc
   rw [vallGo_next fs l n i hi hc] at h ⊢
   rw [vallGo_next fs (p ++ l) N _ (by rw [List.length_append];omega) (by rw [hs])]
   by_cases h2:(vallGo fs l n (vlook fs l i).1.to).2.2 = 0
   ·
    obtain ⟨g1,g2⟩:=vallGo_behind fs p l n (vlook fs l i).1.to N (by omega) (by omega) h2
    rw [hs]
    have e:(Rec.shift p.length (vlook fs l i).1).to = p.length + (vlook fs l i).1.to:=rfl
    simp only [e]
    rw [if_neg (by omega),if_neg (by omega)]
    refine ⟨rfl,?_⟩
    simp only [List.map_cons]
    rw [g2]
    congr 1
    unfold arOf vbytes Rec.shift
    simp only
    rw [part_shift,part_shift]
   ·
    rw [if_pos h2] at h;exact absurd h h2
  ·
   rw [vallGo,if_neg hi,if_pos hc] at h
   exact absurd h hc
theorem vallGo_ahead (fs:List Fld) (p l:List UInt8) (hl:(vall fs l).2.2 = 0):∀ (n i N:Nat),p.length ≤ n + i → (p ++ l).length ≤ N + i → i ≤ p.length → (vallGo fs p n i).2.2 = 0 →
  (vallGo fs (p ++ l) N i).2.2 = 0 ∧ (vallGo fs (p ++ l) N i).1.map (arOf (p ++ l)) = (vallGo fs p n i).1.map (arOf p) ++ arecs fs l
 | n,i,N,hn,hN,hi,h => by
  by_cases hip:p.length ≤ i
  ·
   obtain rfl:i = p.length:=by omega
   rw [vallGo_end fs p n _ (Nat.le_refl _)]
   rw [List.length_append] at hN
   have:=vallGo_behind fs p l l.length 0 N (by omega) (by omega) hl
   exact ⟨this.1,this.2⟩
  cases n with
  | zero => omega
  | succ n =>
   obtain ⟨N,rfl⟩:∃ N',N = N' + 1:=⟨N - 1,by rw [List.length_append] at hN;omega⟩
   by_cases hc:(vlook fs p i).2.2.2 = 0
   ·
    have hs:=vlook_app fs l hc
    have hto:=vlook_to fs p i hc
    have hb:=vlook_bds hc
    rw [vallGo_next fs p n i hip hc] at h ⊢
    rw [vallGo_next fs (p ++ l) N i (by rw [List.length_append];omega) (by rw [hs];exact hc)]
    by_cases h2:(vallGo fs p n (vlook fs p i).1.to).2.2 = 0
    ·
     obtain ⟨g1,g2⟩:=vallGo_ahead fs p l hl n (vlook fs p i).1.to N (by omega) (by omega) hto.2 h2
     rw [hs,if_neg (by omega),if_neg (by omega)]
     refine ⟨rfl,?_⟩
     simp only [List.map_cons,List.cons_append]
     rw [g2]
     congr 1
     unfold arOf vbytes
     simp only
     rw [part_ahead l hb.2,part_ahead l hb.2]
    ·
     rw [if_pos h2] at h;exact absurd h h2
   ·
    rw [vallGo,if_neg hip,if_pos hc] at h
    exact absurd h hc
theorem arecs_app {fs:List Fld} {p l:List UInt8} (hp:(vall fs p).2.2 = 0) (hl:(vall fs l).2.2 = 0):(vall fs (p ++ l)).2.2 = 0 ∧ arecs fs (p ++ l) = arecs fs p ++ arecs fs l:=by
 have:=vallGo_ahead fs p l hl p.length 0 (p ++ l).length (by omega) (by omega) (by omega) hp
 exact this
theorem arecs_nil (fs:List Fld):(vall fs []).2.2 = 0 ∧ arecs fs [] = []:=⟨rfl,rfl⟩
theorem arecs_flat {fs:List Fld}:∀ {ls:List (List UInt8)},(∀ l ∈ ls,(vall fs l).2.2 = 0) → (vall fs ls.flatten).2.2 = 0 ∧ arecs fs ls.flatten = ls.flatMap (arecs fs)
 | [],_ => arecs_nil fs
 | l :: r,h => by
  obtain ⟨h1,h2⟩:=arecs_flat (ls:=r) fun x hx => h x (by simp [hx])
  obtain ⟨g1,g2⟩:=arecs_app (h l (by simp)) h1
  rw [List.flatten_cons,List.flatMap_cons]
  exact ⟨g1,by rw [g2,h2]⟩
def arW (f:Fld) (x:AR):List Nat:=if x.run = true then (runWords f.kind x.val).1 else if knumber f.kind = true then [(kread f.kind x.val).1] else []
def arB (f:Fld) (x:AR):List (List UInt8):=if x.run = true ∨ knumber f.kind = true then [] else [x.val]
def fieldA {α:Type} (sub:Int → List UInt8 → List α) (f:Fld) (xs:List AR):Val α:=
 ⟨f.number,(counts f xs).flatMap (arW f),if f.kind = 17 then [] else (counts f xs).flatMap (arB f),
  if f.kind = 17 then (if f.rep = true then xs.flatMap (fun x => sub f.of x.val) else if xs = [] then [] else sub f.of (xs.flatMap AR.val)) else []⟩
def msgA {α:Type} (sub:Int → List UInt8 → List α) (fs:List Fld) (xs:List AR):Msgd α:=
 ⟨((sortedF fs).map fun i => fieldA sub (fs.getD i.toNat .zero) (xs.filter fun x => decide (x.k = i))).filter (fun v => decide (0 < many v)),(xs.filter fun x => decide (x.k < 0)).map AR.whole⟩
theorem counts_map {α β:Type} (f:Fld) (g:α → β) (xs:List α):counts f (xs.map g) = (counts f xs).map g:=by
 unfold counts
 split
 ·
  rfl
 ·
  unfold lastOf;rw [List.length_map,List.map_drop]
theorem fieldA_of {α:Type} (sub:Int → List UInt8 → List α) (f:Fld) (l:List UInt8) (xs:List VW):fieldA sub f (xs.map (arOf l)) = fieldV sub f l xs:=by
 unfold fieldA fieldV
 rw [counts_map,List.flatMap_map,List.flatMap_map,List.flatMap_map,List.flatMap_map]
 simp only [List.map_eq_nil_iff]
 rfl
theorem msgA_of {α:Type} (sub:Int → List UInt8 → List α) (fs:List Fld) (l:List UInt8):msgA sub fs (arecs fs l) = msgOf sub fs l:=by
 unfold msgA msgOf arecs
 congr 1
 ·
  congr 1
  refine List.map_congr_left fun i _ => ?_
  rw [← fieldA_of]
  congr 1
  unfold viewsOf
  rw [List.filter_map]
  rfl
 ·
  rw [List.filter_map,List.map_map]
  rfl
end Go.Proofs.YtfimpmennkfjcaaGreatDoor
namespace Go.Proofs.YtfimpmennkfjcaaGreatDoor
open Go.RowKit
theorem rnext_rput {n x:Nat} (ht:tagOk n x = true) {t:List UInt8} (hf:rfits (x:Int) t = true) (hl:t.length < 2 ^ 64) :
  ∃ h,rnext (rput n x t) 0 = (⟨n,x,0,h,h + t.length⟩,0) ∧ (rput n x t).length = h + t.length ∧ part (rput n x t) h (h + t.length) = t ∧ 0 < h:=by
 have ht':(1:Int) ≤ n ∧ (n:Int) ≤ 536870911 ∧ ((x:Int) = 0 ∨ (x:Int) = 1 ∨ (x:Int) = 2 ∨ (x:Int) = 5):=of_decide_eq_true ht
 have hx:x = 0 ∨ x = 1 ∨ x = 2 ∨ x = 5:=by omega
 have ha:8 * n + x < 2 ^ 64:=by omega
 have hpos:=vput_pos (8 * n + x)
 rw [rput_nat]
 obtain ⟨L,hL⟩:∃ L,L = (if x = 2 then vput t.length else []):=⟨_,rfl⟩
 rw [← hL]
 have hv:vread (vput (8 * n + x) ++ (L ++ t)) = (8 * n + x,(vput (8 * n + x)).length,0):=by
  rw [vread_app _ (by rw [vread_vput ha]),vread_vput ha]
 have htr:tread (vput (8 * n + x) ++ (L ++ t)) = (n,x,(vput (8 * n + x)).length,0):=by
  unfold tread
  rw [hv]
  have h8:(8 * n + x) / 8 = n:=by omega
  have h9:(8 * n + x) % 8 = x:=by omega
  simp only [h8,h9]
  rw [if_neg (by simp),if_neg (by rw [ht];simp;omega)]
 have hd:(vput (8 * n + x) ++ (L ++ t)).drop (vput (8 * n + x)).length = L ++ t:=List.drop_left
 have hsz:rsize x (L ++ t) = (L.length,t.length,0):=by
  unfold rsize
  rcases hx with rfl | rfl | rfl | rfl
  ·
   rw [if_neg (by decide)] at hL
   subst hL
   unfold rfits at hf
   simp at hf
   simp [hf.1,hf.2]
  ·
   rw [if_neg (by decide)] at hL
   subst hL
   unfold rfits at hf
   simp at hf
   simp [hf]
  ·
   rw [if_pos rfl] at hL
   subst hL
   rw [if_neg (by decide),if_neg (by decide),if_neg (by decide),vread_app _ (by rw [vread_vput hl]),vread_vput hl]
  ·
   rw [if_neg (by decide)] at hL
   subst hL
   unfold rfits at hf
   simp at hf
   simp [hf]
 refine ⟨(vput (8 * n + x)).length + L.length,?_,by simp;omega,?_,by omega⟩
 ·
  unfold rnext
  rw [if_neg (by rw [List.length_append];omega),List.drop_zero,htr]
  simp only [Nat.zero_add]
  rw [if_neg (by simp),hd,hsz]
  simp only
  rw [if_neg (by simp),if_neg (by simp;omega)]
 ·
  unfold part
  rw [← List.append_assoc,Nat.add_sub_cancel_left]
  rw [show (vput (8 * n + x)).length + L.length = (vput (8 * n + x) ++ L).length by simp,List.drop_left,List.take_length]
theorem part_all (l:List UInt8):part l 0 l.length = l:=by unfold part;simp
theorem arecs_rput {fs:List Fld} {q n x:Nat} (_hq:q < fs.length) (hn:fieldAt fs (n:Int) = q) (ht:tagOk n x = true) {t:List UInt8} (hf:rfits (x:Int) t = true) (hl:t.length < 2 ^ 64) {run:Bool}
  (hrun:run = ((fs.getD q .zero).rep && knumber (fs.getD q .zero).kind && decide (x = 2))) (hk:run = true ∨ kright (fs.getD q .zero).kind = true ∧ kwire (fs.getD q .zero).kind = x) :
  (vall fs (rput n x t)).2.2 = 0 ∧ arecs fs (rput n x t) = [(⟨(q:Int),run,t,rput n x t⟩:AR)]:=by
 obtain ⟨h,h1,h2,h3,h4⟩:=rnext_rput ht hf hl
 have hlook:vlook fs (rput n x t) 0 = ((⟨n,x,0,h,h + t.length⟩:Rec),(q:Int),run,0):=by
  unfold vlook
  rw [h1]
  simp only
  rw [if_neg (by simp),hn,if_neg (by omega),Int.toNat_natCast]
  have e:((fs.getD q Fld.zero).rep && knumber (fs.getD q Fld.zero).kind && decide (x = 2)) = run:=hrun.symm
  rw [e]
  cases run with
  | true => rfl
  | false =>
   rcases hk with hk | ⟨hk1,hk2⟩
   ·
    cases hk
   ·
    rw [if_neg (by simp),if_neg (by rw [hk1,hk2];simp)]
 obtain ⟨N,hN⟩:∃ N,(rput n x t).length = N + 1:=⟨(rput n x t).length - 1,by omega⟩
 have hva:vall fs (rput n x t) = ([(⟨⟨n,x,0,h,h + t.length⟩,(q:Int),run⟩:VW)],0,0):=by
  unfold vall
  rw [hN,vallGo_next fs _ _ _ (by omega) (by rw [hlook]),hlook]
  simp only
  rw [vallGo_end fs _ N _ (by omega),if_neg (by simp)]
 refine ⟨by rw [hva],?_⟩
 unfold arecs
 rw [hva]
 simp only [List.map_cons,List.map_nil]
 unfold arOf vbytes
 simp only
 rw [h3,← h2,part_all]
end Go.Proofs.YtfimpmennkfjcaaGreatDoor
namespace Go.Proofs.YtfimpmennkfjcaaGreatDoor
open Go.RowKit
theorem b8_nat {n:Nat} (h:n < 256):(b8 n).toNat = n:=((b8_eq n (b8 n) h).1 rfl).symm
theorem wordL_little:∀ (n x:Nat),wordL (little n x) = x % 256 ^ n
 | 0,x => by simp [little,wordL,Nat.mod_one]
 | n + 1,x => by
  rw [little,wordL,wordL_little n,b8_nat (Nat.mod_lt _ (by decide)),Nat.pow_succ,Nat.mul_comm (256 ^ n) 256,Nat.mod_mul]
theorem kcanon_small {k:Int} (h1:9 ≤ k) (h2:k < 12) (x:Nat):kcanon k x < 256 ^ 4:=by
 unfold kcanon
 rw [if_neg (by omega),if_neg (by omega),if_pos (by omega)]
 exact Nat.mod_lt _ (by decide)
theorem kforms {k:Int} (hk:knumber k = true) (x:Nat):(kwire k = 1 ∧ kput k x = little 8 (kcanon k x)) ∨ (kwire k = 5 ∧ kput k x = little 4 (kcanon k x) ∧ 9 ≤ k ∧ k < 12) ∨ (kwire k = 0 ∧ kput k x = vput (kcanon k x)):=by
 have hk':1 ≤ k ∧ k ≤ 14:=of_decide_eq_true hk
 unfold kwire kput
 rw [if_neg (show ¬ (k < 1 ∨ 17 < k) by omega),if_neg (show ¬ (15 ≤ k) by omega)]
 by_cases h1:12 ≤ k
 ·
  rw [if_pos h1,if_pos h1];exact .inl ⟨rfl,rfl⟩
 ·
  rw [if_neg h1,if_neg h1]
  by_cases h2:9 ≤ k
  ·
   rw [if_pos h2,if_pos h2];exact .inr (.inl ⟨rfl,rfl,h2,by omega⟩)
  ·
   rw [if_neg h2,if_neg h2];exact .inr (.inr ⟨rfl,rfl⟩)
theorem kput_pos {k:Int} {x:Nat}:0 < (kput k x).length:=by
 unfold kput
 split
 ·
  rw [little_len];omega
 ·
  split
  ·
   rw [little_len];omega
  ·
   exact vput_pos _
theorem kread_kput {k:Int} {x:Nat} (hk:knumber k = true) (h:x < 2 ^ 64):kread k (kput k x) = (kcanon k x,0):=by
 have hc:=kcanon_lt k h
 unfold kread
 rw [if_pos (kput_fits hk h)]
 congr 1
 have e:(if kwire k = 0 then (vread (kput k x)).1 else wordOf (kput k x)) = kcanon k x:=by
  rcases kforms hk x with ⟨e1,e2⟩ | ⟨e1,e2,h1,h2⟩ | ⟨e1,e2⟩
  ·
   rw [e1,e2,if_neg (by decide)]
   unfold wordOf
   rw [List.take_of_length_le (by rw [little_len];omega),wordL_little]
   exact Nat.mod_eq_of_lt hc
  ·
   rw [e1,e2,if_neg (by decide)]
   unfold wordOf
   rw [List.take_of_length_le (by rw [little_len];omega),wordL_little]
   exact Nat.mod_eq_of_lt (kcanon_small h1 h2 x)
  ·
   rw [e1,e2,if_pos rfl,vread_vput hc]
 rw [e]
 exact kcanon_idem k x
theorem runSize_kput {k:Int} {x:Nat} (hk:knumber k = true) (h:x < 2 ^ 64) (r:List UInt8):runSize (kwire k) (kput k x ++ r) = ((kput k x).length,0):=by
 have hc:=kcanon_lt k h
 unfold runSize
 rcases kforms hk x with ⟨e1,e2⟩ | ⟨e1,e2,h1,h2⟩ | ⟨e1,e2⟩
 ·
  rw [e1,e2,if_neg (by decide),if_pos rfl,if_neg (by rw [List.length_append,little_len];omega),little_len]
 ·
  rw [e1,e2,if_neg (by decide),if_neg (show ¬ (5 = 1) by decide),if_neg (by rw [List.length_append,little_len];omega),little_len]
 ·
  rw [e1,e2,if_pos rfl,vread_app _ (by rw [vread_vput hc]),vread_vput hc]
theorem runCount_kpack {k:Int} (hk:knumber k = true):∀ (ws:List Nat),(∀ x ∈ ws,x < 2 ^ 64) → (runCount (kwire k) (kpack k ws)).2 = 0 ∧ rpieces (kwire k) (kpack k ws) = ws.map (kput k)
 | [],_ => ⟨rfl,rfl⟩
 | x :: r,h => by
  obtain ⟨g1,g2⟩:=runCount_kpack hk r fun y hy => h y (by simp [hy])
  have hx:=h x (by simp)
  have e:kpack k (x :: r) = kput k x ++ kpack k r:=by unfold kpack;rw [List.flatMap_cons]
  have hp:=kput_pos (k:=k) (x:=x)
  have hne:kput k x ++ kpack k r ≠ []:=by intro e;rw [List.append_eq_nil_iff] at e;rw [e.1] at hp;simp at hp
  have hs:=runSize_kput hk hx (kpack k r)
  rw [e]
  refine ⟨?_,?_⟩
  ·
   rw [runCount_step _ _ hne _ hs,List.drop_left,if_neg (by omega)]
  ·
   rw [rpieces_step _ _ hne _ hs,List.drop_left,List.take_left,g2,List.map_cons]
theorem runWords_kpack {k:Int} (hk:knumber k = true) (ws:List Nat) (h:∀ x ∈ ws,x < 2 ^ 64):runWords k (kpack k ws) = (ws.map (kcanon k),0):=by
 obtain ⟨g1,g2⟩:=runCount_kpack hk ws h
 unfold runWords
 rw [if_pos g1]
 unfold kwords
 rw [g2,List.map_map]
 congr 1
 refine List.map_congr_left fun x hx => ?_
 show (kread k (kput k x)).1 = _
 rw [kread_kput hk (h x hx)]
end Go.Proofs.YtfimpmennkfjcaaGreatDoor
namespace Go.Proofs.YtfimpmennkfjcaaGreatDoor
open Go.RowKit
end Go.Proofs.YtfimpmennkfjcaaGreatDoor
namespace Go.Proofs.YtfimpmennkfjcaaGreatDoor
open Go.RowKit
end Go.Proofs.YtfimpmennkfjcaaGreatDoor
namespace Go.Proofs.YtfimpmennkfjcaaGreatDoor
open Go.RowKit
set_option maxRecDepth 100000 in
set_option maxHeartbeats 4000000 in
theorem ref14_Many (num:Int) (a1 a2 a3:Option Addr) (n1 n2 n3 c1 c2 c3:Nat) (h1:n1 ≤ 140737488355328) (h2:n2 ≤ 140737488355328) (h3:n3 ≤ 140737488355328) (w:World) :
  Calls Tryz.prog 45 #[.agg #[.int .i64 num,.slice a1 n1 c1,.slice a2 n2 c2,.slice a3 n3 c3]] w fun e w' => e = .returned (.int .i64 ((n1 + n2 + n3:Nat):Int)) ∧ Below w.heap.size w w':=by
 go_enter Tryz.func45,Tryz.ntmps45
 go_wp2
 go_ret
 exact ⟨ret1 (int_eq (by omega)),by (repeat (first | with_reducible exact Below.refl _ _ | with_reducible refine Below.setCell ?_ (by first | omega | (simp;omega) | (simp;done)) _ | with_reducible refine Below.alloc ?_ (by first | omega | (simp;omega) | (simp;done)) _ | with_reducible refine below_drewN ?_ _ | with_reducible refine Below.drew ?_))⟩
theorem size_rmsg (w:World):(sizeOf 45).run Tryz.prog w = .ok 2 w:=by kernel_rfl
end Go.Proofs.YtfimpmennkfjcaaGreatDoor
namespace Go.Proofs.YtfimpmennkfjcaaGreatDoor
open Go.RowKit
theorem sright_num {s:List Mes} (h:sright s = true) (m:Nat) (hm:m < s.length) (f:Fld) (hf:f ∈ (s.getD m .zero).fields):1 ≤ f.number ∧ f.number ≤ 536870911:=by
 have h0:(scheck s).2.2 = 0:=of_decide_eq_true h
 unfold scheck at h0
 by_cases h1:s.length = 0 ∨ 100 < s.length
 ·
  rw [if_pos h1] at h0;simp at h0
 rw [if_neg h1] at h0
 have hmem:s.getD m .zero ∈ s:=by
  have:s.getD m .zero = s[m]:=by simp [List.getD,hm]
  rw [this];exact List.getElem_mem hm
 obtain ⟨h2,-,-⟩:=scheckGo_ok s [] 0 h0 _ hmem
 obtain ⟨nm,nu,h3⟩:=fieldsFault_none _ _ _ h2 f hf
 obtain ⟨-,-,h4,-⟩:=fieldFault_ok h3
 have h5:=of_decide_eq_true h4
 omega
end Go.Proofs.YtfimpmennkfjcaaGreatDoor
namespace Go.Proofs.YtfimpmennkfjcaaGreatDoor
open Go.RowKit
end Go.Proofs.YtfimpmennkfjcaaGreatDoor
namespace Go.Proofs.YtfimpmennkfjcaaGreatDoor
open Go.RowKit
structure WrStep (g:Nat) (bv:Value) (w:World) (bv':Value) (w':World):Prop where
 os:w'.os = w.os
 tape:w'.tape = w.tape
 output:w'.output = w.output
 size:w.heap.size ≤ w'.heap.size
 keep:∀ b,b < w.heap.size → b ≠ g → bv.ownBlock ≠ some b → w'.heap[b]? = w.heap[b]?
 own:bv'.ownBlock = bv.ownBlock ∨ bv'.ownBlock = none ∨ ∃ k,w.heap.size ≤ k ∧ bv'.ownBlock = some k
end Go.Proofs.YtfimpmennkfjcaaGreatDoor
