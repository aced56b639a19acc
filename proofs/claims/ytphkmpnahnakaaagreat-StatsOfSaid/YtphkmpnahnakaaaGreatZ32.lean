/- Parts of a proof: texts of the author, merged. No condition of their own. -/
import Derived.Test.YtphkmpnahnakaaaGreatZ01
import Derived.Test.YtphkmpnahnakaaaGreatZ03
import Derived.Test.YtphkmpnahnakaaaGreatZ20
import Derived.Test.YtphkmpnahnakaaaGreatZ22
import Derived.Test.YtphkmpnahnakaaaGreatZ28
import Derived.Test.YtphkmpnahnakaaaGreatZ29
import Derived.Test.YtphkmpnahnakaaaGreatZ30
import Derived.Laws.IdiomCopy
import Derived.Deep.RegionHeld3
import Derived.StillTail
namespace Go.Proofs.YtphkmpnahnakaaaGreat
open Go.RowKit
def OwnV (w:World) (base:Nat) (v:Value) (l:List VW):Prop:=w.ownsRow base 109 7 v l.length (l.flatMap VW.cells)
theorem rows_views {l:List VW}:∀ {rows:List (List Value)},rows.length = l.length → (∀ (i:Nat) (r:List Value) (x:VW),rows[i]? = some r → l[i]? = some x → r = x.cells) → rows.flatten = l.flatMap VW.cells:=by
 induction l with
 | nil => intro rows h _;rw [List.eq_nil_of_length_eq_zero h];rfl
 | cons x t ih =>
  intro rows h hr
  match rows,h with
  | r :: rs,h =>
   rw [List.flatten_cons,List.flatMap_cons,hr 0 r x rfl rfl,ih (by simpa using h) fun i r' x' h1 h2 => hr (i + 1) r' x' (by simpa using h1) (by simpa using h2)]
theorem views_own {w:World} {base:Nat} {v:Value} {l:List VW} (h:RowsOwn viewP 109 7 0 base w v l):OwnV w base v l:=by
 obtain ⟨rows,h1,h2,h3,h4⟩:=h
 unfold OwnV
 rw [← rows_views h1 fun i r x hr hx => h4 w (fun _ _ _ _ => rfl) i r x hr hx]
 exact h3
theorem own_views {w:World} {base:Nat} {v:Value} {l:List VW} (h:OwnV w base v l):RowsOwn viewP 109 7 0 base w v l:=by
 refine ⟨l.map VW.cells,by simp,?_,?_,fun _ _ i r x hr hx => ?_⟩
 ·
  intro r hr
  obtain ⟨x,-,rfl⟩:=List.mem_map.1 hr
  rfl
 ·
  rw [← List.flatMap_def];exact h
 ·
  rw [List.getElem?_map,hx] at hr
  exact (Option.some.inj hr).symm
theorem OwnV.below_of {w w':World} {base:Nat} {v:Value} {l:List VW} (h:OwnV w base v l) (hb:Below w.heap.size w w'):OwnV w' base v l:=
 row_keep h fun b _cur _ he => hb.block b (Array.getElem?_eq_some_iff.1 he).1
theorem OwnV.form {w:World} {base:Nat} {v:Value} {l:List VW} (h:OwnV w base v l):∃ a c,v = .slice a l.length c:=(own_views h).form
end Go.Proofs.YtphkmpnahnakaaaGreat
namespace Go.Proofs.YtphkmpnahnakaaaGreat
open Go.RowKit Go.Shelf
end Go.Proofs.YtphkmpnahnakaaaGreat
namespace Go.Proofs.YtphkmpnahnakaaaGreat
open Go.RowKit Go.Shelf
end Go.Proofs.YtphkmpnahnakaaaGreat
namespace Go.Proofs.YtphkmpnahnakaaaGreat
open Go.RowKit Go.Shelf
theorem sright_fields' {s:List Mes} (h:sright s = true) (m:Nat) (hm:m < s.length):(s.getD m .zero).fields.length ≤ 200:=by
 have h0:(scheck s).2.2 = 0:=of_decide_eq_true h
 unfold scheck at h0
 by_cases h1:s.length = 0 ∨ 100 < s.length
 ·
  rw [if_pos h1] at h0;simp at h0
 rw [if_neg h1] at h0
 have hmem:s.getD m .zero ∈ s:=by
  have:s.getD m .zero = s[m]:=by simp [List.getD,hm]
  rw [this];exact List.getElem_mem hm
 exact (scheckGo_ok s [] 0 h0 _ hmem).2.1
theorem views_cells' {w:World} {a:Option Addr} {n c base:Nat} {T:TypeId} {l:List VW} (h:RowsOwn viewP T 7 0 base w (.slice a n c) l) (hl:l.length ≤ 140737488355328) (k:Nat) (x:VW) (hk:l[k]? = some x) :
  ∃ b o,a = some ⟨b,o,none⟩ ∧ base ≤ b ∧ b < w.heap.size ∧ ∀ j u,x.cells[j]? = some u → w.cell? ⟨b,o + k * 7 + j,none⟩ = some u:=by
 have hown:=h.own
 obtain ⟨rows,g1,g2,⟨-,-,a',cap',he,-,-,-,g3⟩,g4⟩:=h.at hl (w':=w) (fun _ _ _ => rfl)
 have hkl:=(List.getElem?_eq_some_iff.1 hk).1
 obtain ⟨r,hr⟩:∃ r,rows[k]? = some r:=⟨_,List.getElem?_eq_getElem (by omega)⟩
 have hx:r = x.cells:=g4 k r x hr hk
 cases he
 have hfl:∀ j u,x.cells[j]? = some u → rows.flatten[k * 7 + j]? = some u:=by
  intro j u hu
  have hj:j < 7:=by have:=(List.getElem?_eq_some_iff.1 hu).1;simpa [VW.cells,viewL] using this
  rw [flatten_get rows k j r g2 hr hj,hx,hu]
 obtain ⟨b,o,ha,-⟩:=g3 (k * 7 + 0) _ (hfl 0 _ rfl)
 subst ha
 obtain ⟨h1,h2⟩:=hown b rfl
 refine ⟨b,o,rfl,h1,h2,fun j u hu => ?_⟩
 obtain ⟨b',o',ha',hc⟩:=g3 (k * 7 + j) u (hfl j u hu)
 cases ha'
 rw [Nat.add_assoc];exact hc
structure Fr (W5:World) (r X:Nat) (wi:World):Prop where
 os:wi.os = W5.os
 tape:wi.tape = W5.tape
 output:wi.output = W5.output
 size:W5.heap.size ≤ wi.heap.size
 block:∀ b,b < W5.heap.size → b ≠ r → b ≠ X → wi.heap[b]? = W5.heap[b]?
theorem Fr.refl (W5:World) (r X:Nat):Fr W5 r X W5:=⟨rfl,rfl,rfl,Nat.le_refl _,fun _ _ _ _ => rfl⟩
theorem Fr.below {W5:World} {r X:Nat} {wi w':World} (h:Fr W5 r X wi) (hb:Below wi.heap.size wi w'):Fr W5 r X w':=
 ⟨hb.os.trans h.os,hb.tape.trans h.tape,hb.output.trans h.output,Nat.le_trans h.size hb.size,fun b h1 h2 h3 => (hb.block b (Nat.lt_of_lt_of_le h1 h.size)).trans (h.block b h1 h2 h3)⟩
theorem Fr.grown {W5:World} {r X:Nat} {wi w':World} {o:Option Nat} (h:Fr W5 r X wi) (hg:wi.grownBy w' o) (ho:∀ b,o = some b → W5.heap.size ≤ b ∨ b = r ∨ b = X):Fr W5 r X w':=
 ⟨hg.os.trans h.os,hg.tape.trans h.tape,hg.output.trans h.output,Nat.le_trans h.size hg.size,fun b h1 h2 h3 => (hg.block b (Nat.lt_of_lt_of_le h1 h.size) (fun e => by have:=ho b e.symm;omega)).trans (h.block b h1 h2 h3)⟩
structure L2 (w8:World) (X:Nat) (has:Nat → Bool) (G:Nat → Nat) (done:List Int) (wi:World):Prop where
 os:wi.os = w8.os
 tape:wi.tape = w8.tape
 output:wi.output = w8.output
 size:w8.heap.size ≤ wi.heap.size
 block:∀ b,b < w8.heap.size → b ≠ X → (∀ p:Nat,(p:Int) ∈ done → has p = true → b ≠ G p) → wi.heap[b]? = w8.heap[b]?
end Go.Proofs.YtphkmpnahnakaaaGreat
namespace Go.Proofs.YtphkmpnahnakaaaGreat
open Go.RowKit
def numsOf (all:List VW) (n:Int):List VW:=all.filter fun x => decide (0 ≤ x.k ∧ (x.r.number:Int) = n)
def unkOf (l:List UInt8) (all:List VW):List UInt8:=(all.filter fun x => decide (x.k < 0)).flatMap fun x => part l x.r.start x.r.to
def atK (es:List (Int × Value)) (n:Int):Value:=(getOf n es).getD noneS
theorem numsOf_snoc (taken:List VW) (x:VW) (n:Int):numsOf (taken ++ [x]) n = if 0 ≤ x.k ∧ (x.r.number:Int) = n then numsOf taken n ++ [x] else numsOf taken n:=by
 unfold numsOf
 rw [List.filter_append]
 by_cases h:0 ≤ x.k ∧ (x.r.number:Int) = n
 ·
  rw [if_pos h,List.filter_cons,decide_eq_true h,if_pos rfl];rfl
 ·
  rw [if_neg h,List.filter_cons,decide_eq_false h,if_neg (by decide)];simp
theorem unkOf_snoc (l:List UInt8) (taken:List VW) (x:VW):unkOf l (taken ++ [x]) = if x.k < 0 then unkOf l taken ++ part l x.r.start x.r.to else unkOf l taken:=by
 unfold unkOf
 rw [List.filter_append]
 by_cases h:x.k < 0
 ·
  rw [if_pos h,List.filter_cons,decide_eq_true h,if_pos rfl,List.flatMap_append];simp
 ·
  rw [if_neg h,List.filter_cons,decide_eq_false h,if_neg (by decide)];simp
structure GSt (B r:Nat) (taken:List VW) (es:List (Int × Value)) (w:World):Prop where
 map:MapIs w r intK es
 own:∀ n:Int,OwnV w B (atK es n) (numsOf taken n)
 apart:∀ (n m:Int) (b:Nat),(atK es n).ownBlock = some b → (atK es m).ownBlock = some b → n = m
structure GI (W5:World) (r P:Nat) (l:List UInt8) (taken:List VW) (es:List (Int × Value)) (u:Value) (w:World):Prop where
 fr:Fr W5 r P w
 box:Blk w P [.map (some r),u] 118
 st:GSt W5.heap.size r taken es w
 un:Own w W5.heap.size u (unkOf l taken)
 ua:∀ (n:Int) (b:Nat),(atK es n).ownBlock = some b → u.ownBlock ≠ some b
theorem ownV_keep {w w':World} {base:Nat} {v:Value} {l:List VW} (h:OwnV w base v l) (hk:∀ b,v.ownBlock = some b → w'.heap[b]? = w.heap[b]?):OwnV w' base v l:=by
 unfold OwnV at h ⊢
 exact owned_keep h hk
theorem OwnV.own {w:World} {base:Nat} {v:Value} {l:List VW} (h:OwnV w base v l) (b:Nat) (e:v.ownBlock = some b):base ≤ b ∧ b < w.heap.size:=World.ownsRow.lt h b e
theorem Own.own {w:World} {base:Nat} {v:Value} {l:List UInt8} (h:Own w base v l) (b:Nat) (e:v.ownBlock = some b):base ≤ b ∧ b < w.heap.size:=World.ownsRow.lt h b e
theorem own_keep' {w w':World} {base:Nat} {v:Value} {l:List UInt8} (h:Own w base v l) (hk:∀ b,v.ownBlock = some b → w'.heap[b]? = w.heap[b]?):Own w' base v l:=by
 unfold Own at h ⊢
 exact owned_keep h hk
theorem GI.start {W5:World} {r P:Nat} {l:List UInt8} (hm:MapIs W5 r intK []) (hb:Blk W5 P [.map (some r),noneS] 118):GI W5 r P l [] [] noneS W5:=
 ⟨Fr.refl _ _ _,hb,⟨hm,fun n => World.ownsRow_nil _ _ _ _,fun n m b h => by simp [atK,getOf,Value.ownBlock] at h⟩,own_nil _ _,fun n b h => by simp [atK,getOf,Value.ownBlock] at h⟩
theorem GI.below {W5:World} {r P:Nat} {l:List UInt8} {taken:List VW} {es:List (Int × Value)} {u:Value} {w w':World} (h:GI W5 r P l taken es u w) (hr:r < W5.heap.size) (hb:Below w.heap.size w w'):GI W5 r P l taken es u w':=by
 have hs:=h.fr.size
 exact ⟨h.fr.below hb,h.box.below hb,⟨(hb.block r (by omega)).trans h.st.map,fun n => (h.st.own n).below_of hb,h.st.apart⟩,h.un.below_of hb,h.ua⟩
theorem GI.unkPush {W5:World} {r P:Nat} {l:List UInt8} {taken:List VW} {es:List (Int × Value)} {u:Value} {w:World} (h:GI W5 r P l taken es u w) (hr:r < W5.heap.size) (hP:P < W5.heap.size) (hne:P ≠ r) {x:VW} (hx:x.k < 0) {t:List UInt8} {v:Value} (hv:Bytes w v t) (ht:t = part l x.r.start x.r.to) (hl:(unkOf l taken).length + t.length ≤ 4398046511104) :
  ∃ a5 n5 c5 w7,(Builtin.append_ #[24,24] 24 #[u,v]).run Tryz.prog w = .ok (.slice a5 n5 c5) w7 ∧ Blk w7 P [.map (some r),u] 118 ∧ GI W5 r P l (taken ++ [x]) es (.slice a5 n5 c5) (w7.setCell ⟨P,1,none⟩ (.slice a5 n5 c5)):=by
 have hs:=h.fr.size
 obtain ⟨v',w7,hrun,hO,hg,hat⟩:=own_append h.un hv (by omega) hs
 obtain ⟨a5,n5,c5,rfl⟩:=own_form' hO
 have hub:∀ b,u.ownBlock = some b → W5.heap.size ≤ b:=fun b e => (h.un.own b e).1
 have hb7:Blk w7 P [.map (some r),u] 118:=(hg.block P h.box.lt (fun e => by have:=hub P e.symm;omega)).trans h.box
 have hk:∀ b,b < w.heap.size → b ≠ P → u.ownBlock ≠ some b → (w7.setCell ⟨P,1,none⟩ (.slice a5 n5 c5)).heap[b]? = w.heap[b]?:=fun b hlt h1 h2 => by
  rw [Below.heap_setCell _ _ _ b (by show b ≠ P;exact h1)]
  exact hg.block b hlt fun e => h2 e.symm
 have hnk:∀ n,numsOf (taken ++ [x]) n = numsOf taken n:=fun n => by rw [numsOf_snoc,if_neg (by omega)]
 refine ⟨a5,n5,c5,w7,hrun,hb7,?_,by simpa using hb7.set 1 (.slice a5 n5 c5),⟨?_,fun n => ?_,h.st.apart⟩,?_,fun n b e e2 => ?_⟩
 ·
  have hf7:=h.fr.grown hg fun b e => .inl (hub b e)
  have hc:w7.grownBy (w7.setCell ⟨P,1,none⟩ (.slice a5 n5 c5)) (some P):=cell_grown _ _ _
  exact hf7.grown hc fun b e => .inr (.inr (Option.some.inj e).symm)
 ·
  exact (hk r (by omega) (by omega) (fun e => by have:=hub r e;omega)).trans h.st.map
 ·
  rw [hnk]
  exact ownV_keep (h.st.own n) fun b e => hk b ((h.st.own n).own b e).2 (by have:=((h.st.own n).own b e).1;omega) (h.ua n b e)
 ·
  rw [unkOf_snoc,if_pos hx,← ht]
  exact own_keep' hO fun b e => Below.heap_setCell _ _ _ b (by show b ≠ P;have:=(hO.own b e).1;omega)
 ·
  rcases hat with e3 | e3
  ·
   rw [e3] at e2;exact h.ua n b e e2
  ·
   rw [e3] at e2;injection e2 with e2;have:=((h.st.own n).own b e).2;omega
theorem zero_views:∀ w:World,(zeroValue 104).run Tryz.prog w = .ok noneS w:=fun w => by kernel_rfl
theorem parts_lookup {w:World} {r:Nat} {es:List (Int × Value)} (h:MapIs w r intK es) (q:Int):(Instr.lookup 116 (.map (some r)) (.int .i64 q) false).run Tryz.prog w = .ok (atK es q) w:=by
 have:=map_lookup (P:=Tryz.prog) intK_ok Tryz.underlying116 zero_views h q false
 simp only [Bool.false_eq_true,if_false] at this
 exact this
theorem atK_put (es:List (Int × Value)) (k:Int) (v:Value) (n:Int):atK (putK k v es) n = if n = k then v else atK es n:=by
 unfold atK
 rw [putK_get]
 split <;> rfl
theorem GI.viewPush {W5:World} {r P:Nat} {l:List UInt8} {taken:List VW} {es:List (Int × Value)} {u:Value} {w:World} (h:GI W5 r P l taken es u w) (hr:r < W5.heap.size) (hP:P < W5.heap.size) (hne:P ≠ r) {x:VW} (hx:0 ≤ x.k) {n:Int} (hn:(x.r.number:Int) = n) (hl:taken.length ≤ 1099511627776) :
  ∃ a5 n5 c5 w7,(Builtin.append_ #[104,104] 104 #[atK es n,.slice (some ⟨w.heap.size,0,none⟩) 1 1]).run Tryz.prog (w.alloc (.cells x.cells.toArray 109)) = .ok (.slice a5 n5 c5) w7 ∧ (∀ b,b < w.heap.size → (atK es n).ownBlock ≠ some b → w7.heap[b]? = w.heap[b]?) ∧
   (∃ w8,(Instr.mapUpdate 116 (.map (some r)) (.int .i64 n) (.slice a5 n5 c5)).run Tryz.prog w7 = .ok () w8 ∧ ∃ es',GI W5 r P l (taken ++ [x]) es' u w8):=by
 have hs:=h.fr.size
 have hnl:(numsOf taken n).length ≤ 1099511627776:=by have:=List.length_filter_le (fun x:VW => decide (0 ≤ x.k ∧ (x.r.number:Int) = n)) taken;unfold numsOf;omega
 have hcells:∀ u ∈ x.cells.toArray.toList,u.oneCell' = true:=by
  intro u hu
  have hu':u ∈ x.cells:=by simpa using hu
  unfold VW.cells viewL at hu'
  simp only [List.mem_cons,List.not_mem_nil,or_false] at hu'
  rcases hu' with rfl | rfl | rfl | rfl | rfl | rfl | rfl <;> rfl
 obtain ⟨v',w7,hrun,hO,hg,hat⟩:=(own_views (h.st.own n)).append' (by decide) (G:=Tryz.prog) 104 _ 56 Tryz.underlying104 info_view rfl x.cells.toArray rfl hcells x (fun _ _ => rfl) hnl (by decide) hs
 have hO7:=views_own hO
 obtain ⟨a5,c5,rfl⟩:=hO7.form
 have hA:Below w.heap.size w (w.alloc (.cells x.cells.toArray 109)):=(Below.refl _ _).alloc (Nat.le_refl _) _
 have hgw:w.grownBy w7 (atK es n).ownBlock:=⟨hg.os,hg.tape,hg.output,Nat.le_trans (by simp) hg.size,fun k hk h2 => (hg.block k (by simp;omega) h2).trans (Below.heap_alloc w _ k hk)⟩
 have hvb:∀ (m:Int) (b:Nat),(atK es m).ownBlock = some b → W5.heap.size ≤ b ∧ b < w.heap.size:=fun m b e => (h.st.own m).own b e
 have hk7:∀ b,b < w.heap.size → (atK es n).ownBlock ≠ some b → w7.heap[b]? = w.heap[b]?:=fun b hb e => hgw.block b hb fun e2 => e e2.symm
 have hm7:MapIs w7 r intK es:=(hk7 r (by omega) (fun e => by have:=(hvb n r e).1;omega)).trans h.st.map
 have hnew:∀ b,(Value.slice a5 (numsOf taken n ++ [x]).length c5).ownBlock = some b → (atK es n).ownBlock = some b ∨ w.heap.size ≤ b:=fun b e => by
  rcases hat with e2 | e2
  ·
   rw [e2] at e;exact .inl e
  ·
   rw [e2] at e;injection e with e;simp at e;exact .inr (by omega)
 refine ⟨a5,_,c5,w7,hrun,hk7,_,map_put (P:=Tryz.prog) intK_ok int_sameBits Tryz.underlying116 hm7 n _,_,?_,?_,⟨putMap_is (by have:=hgw.size;omega),fun m => ?_,fun m m' b e e' => ?_⟩,?_,fun m b e => ?_⟩
 ·
  have hf7:=h.fr.grown hgw fun b e => .inl (hvb n b e).1
  exact ⟨hf7.os,hf7.tape,hf7.output,by rw [putMap_size];exact hf7.size,fun b h1 h2 h3 => (putMap_other h2).trans (hf7.block b h1 h2 h3)⟩
 ·
  exact (putMap_other hne).trans ((hk7 P (by omega) (fun e => by have:=(hvb n P e).1;omega)).trans h.box)
 ·
  rw [atK_put,numsOf_snoc]
  by_cases hm:m = n
  ·
   subst hm
   rw [if_pos rfl,if_pos ⟨hx,hn⟩]
   exact ownV_keep hO7 fun b e => putMap_other (by have:=(hO7.own b e).1;omega)
  ·
   rw [if_neg hm,if_neg (fun e => hm (e.2.symm.trans hn))]
   exact ownV_keep (h.st.own m) fun b e => (putMap_other (by have:=(hvb m b e).1;omega)).trans (hk7 b (hvb m b e).2 fun e2 => hm (h.st.apart m n b e e2))
 ·
  rw [atK_put] at e e'
  by_cases hm:m = n
  ·
   by_cases hm':m' = n
   ·
    omega
   ·
    rw [if_pos hm] at e
    rw [if_neg hm'] at e'
    rcases hnew b e with e2 | e2
    ·
     exact absurd (h.st.apart m' n b e' e2) hm'
    ·
     have:=(hvb m' b e').2;omega
  ·
   rw [if_neg hm] at e
   by_cases hm':m' = n
   ·
    rw [if_pos hm'] at e'
    rcases hnew b e' with e2 | e2
    ·
     exact absurd (h.st.apart m n b e e2) hm
    ·
     have:=(hvb m b e).2;omega
   ·
    rw [if_neg hm'] at e'
    exact h.st.apart m m' b e e'
 ·
  rw [unkOf_snoc,if_neg (by omega)]
  refine own_keep' h.un fun b e => (putMap_other (by have:=(h.un.own b e).1;omega)).trans (hk7 b (h.un.own b e).2 fun e2 => h.ua n b e2 e)
 ·
  rw [atK_put] at e
  by_cases hm:m = n
  ·
   rw [if_pos hm] at e
   rcases hnew b e with e2 | e2
   ·
    exact h.ua n b e2
   ·
    intro e3;have:=(h.un.own b e3).2;omega
  ·
   rw [if_neg hm] at e
   exact h.ua m b e
theorem nums_views {s:List Mes} {d m:Nat} {l:List UInt8} {all:List VW} (hN:Nums (s.getD m .zero).fields) (hall:∀ x ∈ all,ViewOk s d m l x) (hnum:∀ x ∈ all,∀ k:Nat,x.k = k → ((s.getD m .zero).fields.getD k .zero).number = (x.r.number:Int)) {q:Nat} (hq:q < (s.getD m .zero).fields.length) :
  numsOf all ((s.getD m .zero).fields.getD q .zero).number = viewsOf all (q:Int):=by
 unfold numsOf viewsOf
 refine List.filter_congr fun x hx => ?_
 obtain ⟨-,-,-,h4⟩:=(hall x hx).facts
 by_cases hk:x.k < 0
 ·
  rw [decide_eq_false (by omega),decide_eq_false (by omega)]
 ·
  rcases h4 with ⟨h4,-⟩ | ⟨k,h4,hk2,-⟩
  ·
   omega
  ·
   have hn:=hnum x hx k h4
   by_cases hkq:k = q
   ·
    subst hkq
    rw [decide_eq_true ⟨by omega,hn.symm⟩,decide_eq_true h4]
   ·
    rw [decide_eq_false (p:=x.k = (q:Int)) (by omega),decide_eq_false]
    rintro ⟨-,e⟩
    rw [← hn] at e
    rcases Nat.lt_or_gt_of_ne hkq with hlt | hlt
    ·
     exact hN.ne hlt hq e
    ·
     exact hN.ne hlt hk2 e.symm
end Go.Proofs.YtphkmpnahnakaaaGreat
namespace Go.Proofs.YtphkmpnahnakaaaGreat
open Go.RowKit
section
variable {P:Program} {ops:Array Oper} {Q:Exit → Act → World → Prop} {S:World → Prop} {L:Nat}
def wpAnyE (P:Program) (ops:Array Oper) (Q:Exit → Act → World → Prop) (S:World → Prop) (L:Nat):Nat → Array Bool → Act → World → Prop
 | 0,listed,a,w => Region.ready .any ops listed = [] ∧ Q .normal a w
 | fuel + 1,listed,a,w =>
  (Region.ready .any ops listed = [] → Q .normal a w) ∧
  ∀ i ∈ Region.ready .any ops listed,wpOp P ops Q i (fun a' w' => (i ≠ L → S w') ∧ wpAnyE P ops Q S L fuel (listed.setIfInBounds i true) a' w') a w
theorem wpAny_of_E:∀ (fuel:Nat) (listed:Array Bool) (a:Act) (w:World),wpAnyE P ops Q S L fuel listed a w → wpAny P .any ops Q fuel listed a w
 | 0,_,_,_,h => h
 | fuel + 1,_,_,_,h => ⟨h.1,fun i hi => wpOp_mono (fun a' w' h' => wpAny_of_E fuel _ a' w' h'.2) (h.2 i hi)⟩
theorem wpAnyE_first {i:Nat} {oi:Oper} {v:Value} (hi:ops[i]? = some oi) (hsel:∀ (j:Nat) (o:Oper) cs b,ops[j]? = some o → o.op ≠ .select cs b)
  (hQ:∀ c a w,Q (.panic c) (a.put oi.dst v) w → Q (.panic c) a w) (hL:Region.waitsFor .any ops L i = true) :
  ∀ (fuel:Nat) (listed:Array Bool) (a:Act) (w:World),
   (∀ j oj,ops[j]? = some oj → j ≠ i → listed.getD j true = false → (∀ e ∈ oj.after,Region.binds .any e = true → e.on ≠ i) → oi.apart ops oj = true) →
   i ∈ Region.ready .any ops listed → YieldsIf P ops S oi v a → S w →
   wpAnyE P ops Q S L fuel (listed.setIfInBounds i true) (a.put oi.dst v) w → wpAnyE P ops Q S L (fuel + 1) listed a w:=by
 obtain ⟨oL,hoL,eL,heL,hbL,honL⟩:=Region.waitsFor_spec hL
 have hnL:∀ (listed:Array Bool) (j:Nat),i ∈ Region.ready .any ops listed → j ∈ Region.ready .any ops listed → j ≠ L:=by
  rintro listed j hr hj rfl
  obtain ⟨-,o,ho,hall⟩:=mem_ready.1 hj
  rw [hoL] at ho
  cases ho
  have h1:=hall eL heL hbL
  rw [honL] at h1
  have h0:=(mem_ready.1 hr).1
  rw [getD_both h0] at h1
  cases h1
 intro fuel
 induction fuel with
 | zero =>
  intro listed a w _ hr hy hS H
  refine ⟨fun h => (by rw [h] at hr;cases hr),fun j hj => ?_⟩
  by_cases hji:j = i
  ·
   subst hji;exact hy.wpOp hi hS ⟨fun _ => hS,H⟩
  ·
   have:=ready_mono hj hji
   rw [H.1] at this
   cases this
 | succ fuel ih =>
  intro listed a w hfree hr hy hS H
  refine ⟨fun h => (by rw [h] at hr;cases hr),fun j hj => ?_⟩
  by_cases hji:j = i
  ·
   subst hji;exact hy.wpOp hi hS ⟨fun _ => hS,H⟩
  ·
   have hjL:=hnL listed j hr hj
   have h1:=H.2 j (ready_mono hj hji)
   obtain ⟨hjun,oj,hoj,hall⟩:=mem_ready.1 hj
   have hnot:∀ e ∈ oj.after,Region.binds .any e = true → e.on ≠ i:=fun e he hb heq => by
    have h1:=hall e he hb
    have h0:=(mem_ready.1 hr).1
    rw [heq,getD_both h0] at h1
    cases h1
   have h2:=wpOp_putIf hoj (hfree j oj hoj hji hjun hnot) (fun cs b => hsel i oi cs b hi) (fun cs b => hsel j oj cs b hoj) hQ hy h1
   have hfree':∀ k ok,ops[k]? = some ok → k ≠ i → (listed.setIfInBounds j true).getD k true = false →
     (∀ e ∈ ok.after,Region.binds .any e = true → e.on ≠ i) → oi.apart ops ok = true:=fun k ok hk hki hun hno => by
    refine hfree k ok hk hki ?_ hno
    by_cases hjk:j = k
    ·
     subst hjk;exact hjun
    ·
     rw [getD_set_ne true hjk] at hun;exact hun
   refine wpOp_mono (fun a' w' h3 => ⟨h3.2.1,ih (listed.setIfInBounds j true) a' w' hfree' (ready_mono hr (Ne.symm hji)) h3.1 (h3.2.1 hjL) ?_⟩) h2
   rw [Array.setIfInBounds_comm _ _ hji]
   exact h3.2.2
theorem wp_region_E {id:Nat} {a:Act} {w:World} (L:Nat) (S:World → Prop) (hm:P.follows .mixedOrders = true)
  (h:wpAnyE P ops Q S L ops.size (Array.replicate ops.size false) a w.drew):(Code.region id ops true).wp P Q a w:=
 wp_region_any hm (wpAny_of_E _ _ _ _ h)
theorem wpAnyE_take {i:Nat} {oi:Oper} {v:Value} {fuel:Nat} {listed:Array Bool} {a:Act} {w:World} (hi:ops[i]? = some oi)
  (hs:Region.noSelect ops = true) (hf:Region.free .any ops listed i = true) (hr:(Region.ready .any ops listed).contains i = true) (hL:Region.waitsFor .any ops L i = true)
  (hQ:∀ c a w,Q (.panic c) (a.put oi.dst v) w → Q (.panic c) a w) (hS:S w) (hy:YieldsIf P ops S oi v a)
  (h:wpAnyE P ops Q S L fuel (listed.setIfInBounds i true) (a.put oi.dst v) w):wpAnyE P ops Q S L (fuel + 1) listed a w:=
 wpAnyE_first hi (Region.noSelect_spec hs) hQ hL fuel listed a w (Region.free_spec hi hf) (by simpa using hr) hy hS h
theorem wpAnyE_one {i:Nat} {oi:Oper} {fuel:Nat} {listed:Array Bool} {a:Act} {w:World} (hr:Region.ready .any ops listed = [i]) (hi:ops[i]? = some oi) (hg:oi.guard = none)
  (h:∀ K':Act → World → Prop,Shut (∀ a w,(i ≠ L → S w) → wpAnyE P ops Q S L fuel (listed.setIfInBounds i true) a w → K' a w) → Oper.wp P oi a w K' Q):wpAnyE P ops Q S L (fuel + 1) listed a w:=by
 refine ⟨fun h0 => (by rw [hr] at h0;cases h0),fun j hj => ?_⟩
 rw [hr] at hj
 have hji:j = i:=by simpa using hj
 subst hji
 refine wpOp_step hi fun K' hK => ?_
 rw [if_pos (by simp [Region.wanted,hg])]
 exact h K' fun a w hS hW => hK a w ⟨hS,hW⟩
theorem wpAnyE_done {listed:Array Bool} {a:Act} {w:World} (hr:Region.ready .any ops listed = []) (h:Q .normal a w):∀ fuel,wpAnyE P ops Q S L fuel listed a w
 | 0 => ⟨hr,h⟩
 | _ + 1 => ⟨fun _ => h,by rw [hr];simp⟩
end
end Go.Proofs.YtphkmpnahnakaaaGreat
