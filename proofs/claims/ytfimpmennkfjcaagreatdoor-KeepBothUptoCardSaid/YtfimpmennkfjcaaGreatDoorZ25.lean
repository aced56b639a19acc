/- darningref14.Of: what holds in a round for a record of a field (OfSt, OfMid); a message's call in it. No condition. Slices of ints: what they hold; slices.Equal, slices.Clone, slices.Compare of ints; darningref07.SameInts. No condition. -/
import Derived.Test.YtfimpmennkfjcaaGreatDoorZ11
import Derived.Test.YtfimpmennkfjcaaGreatDoorZ20
import Derived.Test.YtfimpmennkfjcaaGreatDoorZ22
import Derived.Test.YtfimpmennkfjcaaGreatDoorZ24
namespace Go.Proofs.YtfimpmennkfjcaaGreatDoor
open Go.RowKit Go.Shelf
def OfSt (W5:World) (F:Nat) (s:List Mes) (d:Nat) (f:Fld) (l:List UInt8) (xs:List VW) (w:World) (j s1 s2 s3:Value):Prop:=
 Below (F + 1) W5 w ∧ Blk w (F + 1) [.int .i64 f.number,s1,s2,s3] 91 ∧ OfInv s d f l xs (F + 1 + 1) w j s1 s2 s3
def OfMid (W5:World) (F:Nat) (s:List Mes) (d:Nat) (f:Fld) (l:List UInt8) (xs:List VW) (w:World) (j s1 s2 s3:Value):Prop:=
 Below (F + 1) W5 w ∧ Blk w (F + 1) [.int .i64 f.number,s1,s2,s3] 91 ∧
 (knumber f.kind = true → s2 = noneS ∧ s3 = noneS ∧ j = noneS ∧ WordsOwn w (F + 1 + 1) s1 (if f.rep = true then (counts f xs).flatMap (pieceW f l) else [])) ∧
 (f.kind = 17 → s1 = noneS ∧ s2 = noneS ∧
  (f.rep = true → j = noneS ∧ RowsOwn (SubP d) 45 2 0 (F + 1 + 1) w s3 (xs.flatMap fun x => tsub s d f.of (vbytes l x))) ∧
  (f.rep = false → s3 = noneS ∧ Own w (F + 1 + 1) j (xs.flatMap (vbytes l)))) ∧
 (knumber f.kind = false → f.kind ≠ 17 → s1 = noneS ∧ s3 = noneS ∧ j = noneS ∧ StrsOwn w (F + 1 + 1) s2 (if f.rep = true then (counts f xs).flatMap (pieceB f l) else []))
theorem OfSt.mid {W5:World} {F:Nat} {s:List Mes} {d:Nat} {f:Fld} {l:List UInt8} {xs:List VW} {w:World} {j s1 s2 s3:Value} (h:OfSt W5 F s d f l xs w j s1 s2 s3) (hr:f.rep = true):OfMid W5 F s d f l xs w j s1 s2 s3:=by
 refine ⟨h.1,h.2.1,fun hk => ?_,fun h17 => ?_,fun hk h17 => ?_⟩
 ·
  rw [if_pos hr];exact h.2.2.1 hk
 ·
  exact h.2.2.2.1 h17
 ·
  rw [if_pos hr];exact h.2.2.2.2 hk h17
theorem OfSt.clear {W5:World} {F:Nat} {s:List Mes} {d:Nat} {f:Fld} {l:List UInt8} {xs:List VW} {w:World} {j s1 s2 s3:Value} (h:OfSt W5 F s d f l xs w j s1 s2 s3) (hr:f.rep = false) :
  OfMid W5 F s d f l xs ((w.setCell ⟨F + 1,1,none⟩ noneS).setCell ⟨F + 1,2,none⟩ noneS) j noneS noneS s3:=by
 have hne:¬ f.rep = true:=by simp [hr]
 have hk:∀ b,F + 1 + 1 ≤ b → ((w.setCell ⟨F + 1,1,none⟩ noneS).setCell ⟨F + 1,2,none⟩ noneS).heap[b]? = w.heap[b]?:=fun b hb => by
  rw [Below.heap_setCell _ _ _ b (by show b ≠ F + 1;omega),Below.heap_setCell _ _ _ b (by show b ≠ F + 1;omega)]
 have h2:=h.2.2.keep (w':=(w.setCell ⟨F + 1,1,none⟩ noneS).setCell ⟨F + 1,2,none⟩ noneS) (fun b hb _ => hk b hb) (by simp)
 refine ⟨(h.1.setCell (by show F + 1 ≤ F + 1;omega) _).setCell (by show F + 1 ≤ F + 1;omega) _,by simpa using (h.2.1.set 1 noneS).set 2 noneS,fun hk => ?_,fun h17 => ?_,fun hk h17 => ?_⟩
 ·
  rw [if_neg hne]
  obtain ⟨-,g2,g3,-⟩:=h2.1 hk
  exact ⟨rfl,g2,g3,World.ownsRow_nil _ _ _ _⟩
 ·
  obtain ⟨-,-,g3,g4⟩:=h2.2.1 h17
  exact ⟨rfl,rfl,g3,g4⟩
 ·
  rw [if_neg hne]
  obtain ⟨-,g2,g3,-⟩:=h2.2.2 hk h17
  exact ⟨rfl,g2,g3,World.ownsRow_nil _ _ _ _⟩
theorem box_push {W5 w w2:World} {F size n:Nat} {e T:TypeId} {cs ys:List Value} {v:Value} (hB:Below (F + 1) W5 w) (hs:F + 1 + 1 ≤ w.heap.size) (hb:Blk w (F + 1) cs T) (ho:w.ownsRow (F + 1 + 1) e size v n ys) (hg:w.grownBy w2 v.ownBlock):Below (F + 1) W5 w2 ∧ Blk w2 (F + 1) cs T:=
 ⟨hB.grown hg (by omega) (fun q e => by have:=(World.ownsRow.lt ho q e).1;omega),(hg.block (F + 1) hb.lt (fun e => by have:=(World.ownsRow.lt ho _ e.symm).1;omega)).trans hb⟩
theorem own_set {w:World} {F size n k:Nat} {e:TypeId} {ys:List Value} {v x:Value} (h:w.ownsRow (F + 1 + 1) e size v n ys):(w.setCell ⟨F + 1,k,none⟩ x).ownsRow (F + 1 + 1) e size v n ys:=
 row_keep h fun b _ hb _ => Below.heap_setCell w _ _ b (by show b ≠ F + 1;omega)
theorem OfMid.num {W5:World} {F:Nat} {s:List Mes} {d:Nat} {f:Fld} {l:List UInt8} {xs:List VW} {w w2:World} {j s1 s2 s3 v2:Value} {x:VW} (h:OfMid W5 F s d f l xs w j s1 s2 s3) (hk:knumber f.kind = true) (hg:Below (F + 1) W5 w2) (hb:Blk w2 (F + 1) [.int .i64 f.number,s1,s2,s3] 91)
  (hO:WordsOwn w2 (F + 1 + 1) v2 ((if f.rep = true then (counts f xs).flatMap (pieceW f l) else []) ++ pieceW f l x)):OfSt W5 F s d f l (xs ++ [x]) (w2.setCell ⟨F + 1,1,none⟩ v2) j v2 s2 s3:=by
 obtain ⟨rfl,rfl,rfl,-⟩:=h.2.2.1 hk
 exact ⟨hg.setCell (by show F + 1 ≤ F + 1;omega) _,by simpa using hb.set 1 v2,OfInv.num hk _ rfl (own_set hO)⟩
theorem OfMid.text {W5:World} {F:Nat} {s:List Mes} {d:Nat} {f:Fld} {l:List UInt8} {xs:List VW} {w w2:World} {j s1 s2 s3 v2:Value} {x:VW} (h:OfMid W5 F s d f l xs w j s1 s2 s3) (hk:knumber f.kind = false) (h17:f.kind ≠ 17) (hx:x.run = false) (hg:Below (F + 1) W5 w2) (hb:Blk w2 (F + 1) [.int .i64 f.number,s1,s2,s3] 91)
  (hO:StrsOwn w2 (F + 1 + 1) v2 ((if f.rep = true then (counts f xs).flatMap (pieceB f l) else []) ++ [vbytes l x])):OfSt W5 F s d f l (xs ++ [x]) (w2.setCell ⟨F + 1,2,none⟩ v2) j s1 v2 s3:=by
 obtain ⟨rfl,rfl,rfl,-⟩:=h.2.2.2.2 hk h17
 exact ⟨hg.setCell (by show F + 1 ≤ F + 1;omega) _,by simpa using hb.set 2 v2,OfInv.text hk h17 hx (own_set hO)⟩
theorem OfMid.sub {W5:World} {F:Nat} {s:List Mes} {d:Nat} {f:Fld} {l:List UInt8} {xs:List VW} {w w2:World} {j s1 s2 s3 v2:Value} {x:VW} (h:OfMid W5 F s d f l xs w j s1 s2 s3) (h17:f.kind = 17) (hr:f.rep = true) (hg:Below (F + 1) W5 w2) (hb:Blk w2 (F + 1) [.int .i64 f.number,s1,s2,s3] 91)
  (hO:RowsOwn (SubP d) 45 2 0 (F + 1 + 1) w2 v2 ((xs.flatMap fun x => tsub s d f.of (vbytes l x)) ++ tsub s d f.of (vbytes l x))):OfSt W5 F s d f l (xs ++ [x]) (w2.setCell ⟨F + 1,3,none⟩ v2) j s1 s2 v2:=by
 obtain ⟨rfl,rfl,g,-⟩:=h.2.2.2.1 h17
 obtain ⟨rfl,-⟩:=g hr
 refine ⟨hg.setCell (by show F + 1 ≤ F + 1;omega) _,by simpa using hb.set 3 v2,OfInv.sub h17 hr (hO.later (fun b _ hc => Below.heap_setCell w2 _ _ b ?_) (by simp))⟩
 show b ≠ F + 1
 omega
theorem OfMid.join {W5:World} {F:Nat} {s:List Mes} {d:Nat} {f:Fld} {l:List UInt8} {xs:List VW} {w w2:World} {j s1 s2 s3 v2:Value} {x:VW} (h:OfMid W5 F s d f l xs w j s1 s2 s3) (h17:f.kind = 17) (hr:f.rep = false) (hg:Below (F + 1) W5 w2) (hb:Blk w2 (F + 1) [.int .i64 f.number,s1,s2,s3] 91)
  (hO:Own w2 (F + 1 + 1) v2 (xs.flatMap (vbytes l) ++ vbytes l x)):OfSt W5 F s d f l (xs ++ [x]) w2 v2 s1 s2 s3:=by
 obtain ⟨rfl,rfl,-,g⟩:=h.2.2.2.1 h17
 obtain ⟨rfl,-⟩:=g hr
 exact ⟨hg,hb,OfInv.join h17 hr hO⟩
theorem OfSt.drewN {W5:World} {F:Nat} {s:List Mes} {d:Nat} {f:Fld} {l:List UInt8} {xs:List VW} {w:World} {j s1 s2 s3:Value} (h:OfSt W5 F s d f l xs w j s1 s2 s3) (n:Nat):OfSt W5 F s d f l xs (w.drewN n) j s1 s2 s3:=
 ⟨below_drewN h.1 _,h.2.1,h.2.2⟩
theorem words_append {w:World} {base:Nat} {v x:Value} {l m:List Nat} (h:WordsOwn w base v l) (hx:WordsAt w x m) (hlen:l.length + m.length ≤ 17592186044416) (hbase:base ≤ w.heap.size) :
  ∃ a c w',(Builtin.append_ #[88,88] 88 #[v,x]).run Tryz.prog w = .ok (.slice a (l.length + m.length) c) w' ∧ WordsOwn w' base (.slice a (l.length + m.length) c) (l ++ m) ∧ w.grownBy w' v.ownBlock:=by
 obtain ⟨v',w',hr,hO,hg,hat⟩:=seg_append (P:=Tryz.prog) w base 88 88 86 (.int .u64 0) 1 8 under_words info_u64 rfl (by decide) v x l.length m.length _ _ h hx.1
  (by intro u hu;obtain ⟨c,-,rfl⟩:=List.mem_map.1 hu;rfl) (by omega) (by omega) hbase
 have h2:WordsOwn w' base v' (l ++ m):=by
  unfold WordsOwn
  rw [List.length_append,List.map_append]
  exact hO
 obtain ⟨a,c,rfl⟩:=h2.form
 rw [List.length_append] at h2 hr
 exact ⟨a,c,w',hr,h2,hg⟩
theorem RowsOwn.rows {α:Type} {P:World → List Value → α → Prop} {T:TypeId} {k n0 base:Nat} {w:World} {v:Value} {l:List α} (h:RowsOwn P T k n0 base w v l):∃ n ys,w.ownsRow base T k v n ys:=by
 obtain ⟨rows,-,-,h3,-⟩:=h
 exact ⟨_,_,h3⟩
theorem OfMid.run_push {W5:World} {F:Nat} {s:List Mes} {d:Nat} {f:Fld} {l:List UInt8} {xs:List VW} {w w6:World} {j s1 s2 s3 v6:Value} {x:VW} (h:OfMid W5 F s d f l xs w j s1 s2 s3) (hs:F + 1 + 1 ≤ w.heap.size) (hk:knumber f.kind = true) (hb6:Below w.heap.size w w6)
  {ws:List Nat} (hO6:WordsOwn w6 w.heap.size v6 ws) (hpw:pieceW f l x = ws) (hws:ws.length ≤ 1099511627776) (ht:∀ y ∈ xs,Thin y) (hl:vsum xs ≤ 1099511627776) :
  ∃ a5 n5 c5 w7,(Builtin.append_ #[88,88] 88 #[s1,v6]).run Tryz.prog w6 = .ok (.slice a5 n5 c5) w7 ∧ Blk w6 (F + 1) [.int .i64 f.number,s1,s2,s3] 91 ∧ Blk w7 (F + 1) [.int .i64 f.number,s1,s2,s3] 91 ∧
   OfSt W5 F s d f l (xs ++ [x]) (w7.setCell ⟨F + 1,1,none⟩ (.slice a5 n5 c5)) j (.slice a5 n5 c5) s2 s3:=by
 obtain ⟨-,-,-,ho⟩:=h.2.2.1 hk
 have hb:=words_bound (f:=f) (l:=l) ht
 have hll:(if f.rep = true then (counts f xs).flatMap (pieceW f l) else []).length ≤ 1099511627776:=by
  split
  ·
   omega
  ·
   simp
 have hlt:∀ y ∈ ws,y < 2 ^ 64:=by rw [← hpw];exact fun y hy => pieceW_lt hy
 obtain ⟨a5,c5,w7,hr,hO,hg⟩:=words_append (ho.later hb6) (hO6.words (by omega) hlt) (by omega) (by have:=hb6.size;omega)
 have b6:Blk w6 (F + 1) _ _:=h.2.1.below hb6
 have hB6:Below (F + 1) W5 w6:=h.1.trans (hb6.mono (by omega))
 obtain ⟨g1,g2⟩:=box_push hB6 (by have:=hb6.size;omega) b6 (ho.later hb6) hg
 refine ⟨a5,_,c5,w7,hr,b6,g2,OfMid.num h hk g1 g2 ?_⟩
 rw [hpw];exact hO
theorem OfMid.num_push {W5:World} {F:Nat} {s:List Mes} {d:Nat} {f:Fld} {l:List UInt8} {xs:List VW} {w:World} {j s1 s2 s3:Value} {x:VW} (h:OfMid W5 F s d f l xs w j s1 s2 s3) (hs:F + 1 + 1 ≤ w.heap.size) (hk:knumber f.kind = true)
  {y:Nat} (hpw:pieceW f l x = [y]) (ht:∀ y ∈ xs,Thin y) (hl:vsum xs ≤ 1099511627776) :
  ∃ a5 n5 c5 w7,(Builtin.append_ #[88,88] 88 #[s1,.slice (some ⟨w.heap.size,0,none⟩) 1 1]).run Tryz.prog (w.alloc (.cells #[.int .u64 (y:Int)] 86)) = .ok (.slice a5 n5 c5) w7 ∧ Blk w7 (F + 1) [.int .i64 f.number,s1,s2,s3] 91 ∧
   OfSt W5 F s d f l (xs ++ [x]) (w7.setCell ⟨F + 1,1,none⟩ (.slice a5 n5 c5)) j (.slice a5 n5 c5) s2 s3:=by
 obtain ⟨-,-,-,ho⟩:=h.2.2.1 hk
 have hb:=words_bound (f:=f) (l:=l) ht
 have hll:(if f.rep = true then (counts f xs).flatMap (pieceW f l) else []).length ≤ 1099511627776:=by
  split
  ·
   omega
  ·
   simp
 obtain ⟨v',w7,hr,hO,hg⟩:=ho.one y hll hs
 obtain ⟨a5,c5,rfl⟩:=hO.form
 obtain ⟨g1,g2⟩:=box_push h.1 hs h.2.1 ho hg
 refine ⟨a5,_,c5,w7,hr,g2,OfMid.num h hk g1 g2 ?_⟩
 rw [hpw];exact hO
theorem OfMid.text_push {W5:World} {F:Nat} {s:List Mes} {d:Nat} {f:Fld} {l:List UInt8} {xs:List VW} {w:World} {j s1 s2 s3:Value} {x:VW} (h:OfMid W5 F s d f l xs w j s1 s2 s3) (hs:F + 1 + 1 ≤ w.heap.size) (hk:knumber f.kind = false) (h17:f.kind ≠ 17) (hx:x.run = false)
  (ht:∀ y ∈ xs,Thin y) (hl:vsum xs ≤ 1099511627776) {t:List UInt8} (htx:vbytes l x = t) :
  ∃ a5 n5 c5 w7,(Builtin.append_ #[25,25] 25 #[s2,.slice (some ⟨w.heap.size,0,none⟩) 1 1]).run Tryz.prog (w.alloc (.cells #[.string ⟨t.toArray⟩] 9)) = .ok (.slice a5 n5 c5) w7 ∧ Blk w7 (F + 1) [.int .i64 f.number,s1,s2,s3] 91 ∧
   OfSt W5 F s d f l (xs ++ [x]) (w7.setCell ⟨F + 1,2,none⟩ (.slice a5 n5 c5)) j s1 (.slice a5 n5 c5) s3:=by
 obtain ⟨-,-,-,ho⟩:=h.2.2.2.2 hk h17
 have hb:=texts_bound (f:=f) (l:=l) ht
 have hll:(if f.rep = true then (counts f xs).flatMap (pieceB f l) else []).length + 1 ≤ 1099511627777:=by
  split
  ·
   omega
  ·
   simp
 subst htx
 obtain ⟨v',w7,hr,hO,hg⟩:=ho.one (vbytes l x) hll hs
 obtain ⟨a5,c5,rfl⟩:=hO.form
 obtain ⟨g1,g2⟩:=box_push h.1 hs h.2.1 ho hg
 exact ⟨a5,_,c5,w7,hr,g2,OfMid.text h hk h17 hx g1 g2 hO⟩
theorem OfMid.join_push {W5:World} {F:Nat} {s:List Mes} {d:Nat} {f:Fld} {l:List UInt8} {xs:List VW} {w:World} {j s1 s2 s3 v6:Value} {x:VW} (h:OfMid W5 F s d f l xs w j s1 s2 s3) (hs:F + 1 + 1 ≤ w.heap.size) (h17:f.kind = 17) (hr:f.rep = false)
  (ht:∀ y ∈ xs,Thin y) (hl:vsum xs ≤ 1099511627776) (hb6:Bytes w v6 (vbytes l x)) (hl6:(vbytes l x).length ≤ 1099511627776) :
  ∃ a5 n5 c5 w7,(Builtin.append_ #[24,24] 24 #[j,v6]).run Tryz.prog w = .ok (.slice a5 n5 c5) w7 ∧
   OfSt W5 F s d f l (xs ++ [x]) w7 (.slice a5 n5 c5) s1 s2 s3:=by
 obtain ⟨-,-,-,g⟩:=h.2.2.2.1 h17
 obtain ⟨-,ho⟩:=g hr
 have hb:=join_bound (l:=l) ht
 obtain ⟨v',w7,hrn,hO,hg,-⟩:=own_append ho hb6 (by omega) hs
 obtain ⟨a5,c5,rfl⟩:=own_form hO
 obtain ⟨g1,g2⟩:=box_push h.1 hs h.2.1 ho hg
 exact ⟨a5,_,c5,w7,hrn,OfMid.join h h17 hr g1 g2 hO⟩
theorem OfMid.sub_push {W5:World} {F:Nat} {s:List Mes} {d:Nat} {f:Fld} {l:List UInt8} {xs:List VW} {w w1:World} {j s1 s2:Value} {a3:Option Addr} {n3 c3:Nat} {x:VW} (h:OfMid W5 F s d f l xs w j s1 s2 (.slice a3 n3 c3)) (hs:F + 1 + 1 ≤ w.heap.size) (h17:f.kind = 17) (hr:f.rep = true)
  (ht:∀ y ∈ xs,Thin y) (hl:vsum xs ≤ 1099511627776) (hb:Below w.heap.size w w1) {u1 u2:Value} (h1:u1.oneCell' = true) (h2:u2.oneCell' = true) {y:M d} (hy:tsub s d f.of (vbytes l x) = [y]) (hap:Apart 0 w.heap.size w1 fun w' => MsgAt d w' (.agg #[u1,u2]) y) :
  ∃ a5 c5 w5,(Builtin.append_ #[89,89] 89 #[.slice a3 n3 c3,.slice (some ⟨w1.heap.size,0,none⟩) 1 1]).run Tryz.prog (w1.alloc (.cells #[u1,u2] 45)) = .ok (.slice a5 (n3 + 1) c5) w5 ∧
   Below (F + 1 + 1) w (w1.alloc (.cells #[u1,u2] 45)) ∧ Below (F + 1 + 1) w w5 ∧
   OfSt W5 F s d f l (xs ++ [x]) (w5.setCell ⟨F + 1,3,none⟩ (.slice a5 (n3 + 1) c5)) j s1 s2 (.slice a5 (n3 + 1) c5):=by
 obtain ⟨-,-,g,-⟩:=h.2.2.2.1 h17
 obtain ⟨-,ho⟩:=g hr
 have hbd:=subs_bound (s:=s) (d:=d) (o:=f.of) (l:=l) ht
 obtain ⟨a',c',he⟩:=ho.form
 have hn3:(xs.flatMap fun x => tsub s d f.of (vbytes l x)).length = n3:=by cases he;rfl
 obtain ⟨a5,c5,w5,hr5,hO5,hB4,hB5⟩:=RowsOwn.step ho hb (by decide) (Nat.zero_le _) hs hn3 89 _ 48 Tryz.underlying89 info_rmsg rfl #[u1,u2] rfl (by intro u hu;simp at hu;rcases hu with rfl | rfl <;> assumption) y hap (by omega) (by decide)
 refine ⟨a5,c5,w5,hr5,hB4,hB5,OfMid.sub h h17 hr (h.1.trans (hB5.mono (by omega))) ((hB5.block (F + 1) (by omega)).trans h.2.1) ?_⟩
 rw [hy];exact hO5
def SubCall (w0:World) (sv:Value) (s:List Mes) (d:Nat) (f:Fld):Prop:=∀ (W:World) (v:Value) (b:List UInt8),Below w0.heap.size w0 W → Bytes W v b → b.length ≤ 1099511627776 → SubOk s d f.of b →
  Calls Tryz.prog 18 #[sv,.int .i64 f.of,v] W fun e w' => ∃ v' y,tsub s d f.of b = [y] ∧ e = .returned v' ∧ Below W.heap.size W w' ∧ Apart 0 W.heap.size w' fun w2 => MsgAt d w2 v' y
theorem SubCall.at {w0:World} {sv:Value} {s:List Mes} {d:Nat} {f:Fld} (h:SubCall w0 sv s d f) {W:World} {v:Value} {b:List UInt8} (h1:Below w0.heap.size w0 W) (h2:Bytes W v b) (h3:b.length ≤ 1099511627776) (h4:SubOk s d f.of b) {o:Int} (ho:o = f.of) :
  Hid (Calls Tryz.prog 18 #[sv,.int .i64 o,v] W fun e w' => ∃ u1 u2 y,(u1.oneCell' = true ∧ u2.oneCell' = true) ∧ tsub s d f.of b = [y] ∧ e = .returned (.agg #[u1,u2]) ∧ Below W.heap.size W w' ∧ Apart 0 W.heap.size w' fun w2 => MsgAt d w2 (.agg #[u1,u2]) y):=by
 subst ho
 refine (h W v b h1 h2 h3 h4).mono ?_
 rintro e w' ⟨v',y,g1,rfl,g2,g3⟩
 obtain ⟨a1,n1,c1,a2,n2,c2,rfl⟩:=g3.here.form
 exact ⟨_,_,y,⟨rfl,rfl⟩,g1,rfl,g2,g3⟩
theorem sub_call {w0:World} {sv:Value} {s:List Mes} (hs:sright s = true) {d:Nat} (hrec:∀ d',d = d' + 1 → ROfOk w0 sv s d') {m q:Nat} (hm:m < s.length) (hq:q < (s.getD m .zero).fields.length):SubCall w0 sv s d ((s.getD m .zero).fields.getD q .zero):=by
 rintro W v b hB hb hl ⟨d',rfl,hv⟩
 have hr:=of_range hs hm hq
 obtain ⟨f,hf⟩:∃ f,f = (s.getD m .zero).fields.getD q .zero:=⟨_,rfl⟩
 rw [← hf] at hr hv ⊢
 obtain ⟨o,ho⟩:∃ o:Nat,f.of = o:=⟨f.of.toNat,by omega⟩
 rw [ho,Int.toNat_natCast] at hv
 rw [ho]
 exact (hrec d' rfl o W v b (by omega) hB hb hl hv).mono fun e w' ⟨v',h1,h2,h3⟩ => ⟨v',_,rfl,h1,h2,h3⟩
theorem sub_call' {w0:World} {sv:Value} {s:List Mes} (hs:sright s = true) {d:Nat} (hrec:∀ d',d = d' + 1 → ROfOk w0 sv s d') {m q:Nat} (hm:m < s.length) {fs:List Fld} (hfs:fs = (s.getD m .zero).fields) (hq:q < fs.length) {f:Fld} (hf:f = fs.getD q .zero):Hid (SubCall w0 sv s d f):=by
 subst hf;subst hfs;exact sub_call hs hrec hm hq
theorem field_recs' {s:List Mes} (hs:sright s = true) {d m:Nat} {l:List UInt8} (hm:m < s.length) (h:(vmsg s d m l).2 = 0) {fs:List Fld} (hfs:fs = (s.getD m .zero).fields) {q:Nat} (hq:q < fs.length) {f:Fld} (hf:f = fs.getD q .zero) {all:List VW} (ha:all = (vall fs l).1) :
  Hid (FieldRecs (SubOk s d) f l (viewsOf all (q:Int))):=by
 subst ha;subst hf;subst hfs;exact field_recs hs hm h hq
theorem OfSt.done1 {W5:World} {F:Nat} {s:List Mes} {d:Nat} {f:Fld} {l:List UInt8} {xs:List VW} {w w1:World} {j s1 s2 s3 u1 u2:Value} {y:M d} (h:OfSt W5 F s d f l xs w j s1 s2 s3) (h17:f.kind = 17) (hr:f.rep = false) (hx:xs ≠ []) (hrun:∀ x ∈ xs,x.run = false)
  (hn:-9223372036854775808 ≤ f.number ∧ f.number ≤ 9223372036854775807) (hs:F + 1 + 1 ≤ w.heap.size) (hb:Below w.heap.size w w1) (hy:tsub s d f.of (xs.flatMap (vbytes l)) = [y]) (hap:Apart 0 w.heap.size w1 fun w2 => MsgAt d w2 (.agg #[u1,u2]) y) :
  ∀ W6,W6 = (w1.setCell ⟨F + 1,3,none⟩ (.slice (some ⟨w1.heap.size,0,none⟩) 1 1)).alloc (.cells #[u1,u2] 45) → Below (F + 1) W5 W6 ∧ Blk W6 (F + 1) [.int .i64 f.number,s1,s2,.slice (some ⟨w1.heap.size,0,none⟩) 1 1] 91 ∧
   Apart 0 (F + 1 + 1) W6 fun w2 => ValP' d w2 [.int .i64 f.number,noneS,noneS,.slice (some ⟨w1.heap.size,0,none⟩) 1 1] (fieldV (tsub s d) f l xs):=by
 rintro W6 rfl
 have hz:=hb.size
 have hS:Below (F + 1) W5 (w1.setCell ⟨F + 1,3,none⟩ (.slice (some ⟨w1.heap.size,0,none⟩) 1 1)):=(h.1.trans (hb.mono (by omega))).setCell (by show F + 1 ≤ F + 1;omega) _
 have hsz:(w1.setCell ⟨F + 1,3,none⟩ (.slice (some ⟨w1.heap.size,0,none⟩) 1 1)).heap.size = w1.heap.size:=by simp
 refine ⟨hS.alloc (by rw [hsz];omega) _,(by simpa using ((h.2.1.below hb).set 3 (.slice (some ⟨w1.heap.size,0,none⟩) 1 1)).alloc (.cells #[u1,u2] 45)),?_⟩
 refine OfInv.done1 h17 hr hx hrun hn hy (by omega) (Blk.new' _ [u1,u2] 45 _ hsz.symm) fun w2 hw2 => hap w2 fun b hlt hc => ?_
 have hc':F + 1 + 1 ≤ b:=by omega
 refine (hw2 b (by simp;omega) (.inr hc')).trans ?_
 rw [Below.heap_alloc _ _ b (by rw [hsz];exact hlt),Below.heap_setCell _ _ _ b (by show b ≠ F + 1;omega)]
theorem val_many {d:Nat} {w:World} {num:Int} {a1 a2 a3:Option Addr} {n1 n2 n3 c1 c2 c3:Nat} {x:Val (M d)} (h:ValP' d w [.int .i64 num,.slice a1 n1 c1,.slice a2 n2 c2,.slice a3 n3 c3] x):n1 + n2 + n3 = many x ∧ n1 ≤ 140737488355328 ∧ n2 ≤ 140737488355328 ∧ n3 ≤ 140737488355328:=by
 obtain ⟨wv,tv,sv,he,-,hW,hT,hS⟩:=h
 obtain ⟨h1,_,_,e1,-⟩:=hW.open
 obtain ⟨h2,_,_,e2,-⟩:=hT.open
 obtain ⟨h3,_,_,e3,-⟩:=hS.open
 subst e1;subst e2;subst e3
 simp at he
 obtain ⟨-,⟨-,e1,-⟩,⟨-,e2,-⟩,-,e3,-⟩:=he
 unfold many
 omega
end Go.Proofs.YtfimpmennkfjcaaGreatDoor
namespace Go.Proofs.YtfimpmennkfjcaaGreatDoor
open Go.RowKit
def intV (x:Int):Value:=.int .i64 x
def i64ok (x:Int):Prop:=-9223372036854775808 ≤ x ∧ x ≤ 9223372036854775807
def IntsAt (w:World) (v:Value) (l:List Int):Prop:=Seg w v 1 l.length (l.map intV) ∧ ∀ x ∈ l,i64ok x
theorem IntsAt.keep {w w':World} {v:Value} {l:List Int} (h:IntsAt w v l) (hk:∀ p u,w.cell? p = some u → w'.cell? p = some u):IntsAt w' v l:=⟨h.1.keep hk,h.2⟩
theorem IntsAt.below {w w':World} {v:Value} {l:List Int} (h:IntsAt w v l) (hb:Below w.heap.size w w'):IntsAt w' v l:=h.keep (below_keeps hb)
theorem IntsAt.open {w:World} {v:Value} {l:List Int} (h:IntsAt w v l) :
  l.length ≤ 140737488355328 ∧ ∃ a cap,v = .slice a l.length cap ∧ (a = none → cap = 0) ∧ ∀ k x,l[k]? = some x → i64ok x ∧ ∃ b o,a = some ⟨b,o,none⟩ ∧ w.cell? ⟨b,o + k,none⟩ = some (.int .i64 x):=by
 obtain ⟨⟨_,h2,a,cap,hv,h3,h4,h5,h6⟩,hl⟩:=h
 refine ⟨h2,a,cap,hv,h5,fun k t hk => ⟨hl _ (List.mem_of_getElem? hk),h6 k _ ?_⟩⟩
 simp [hk,intV]
theorem size_int (w:World):(sizeOf 3).run Tryz.prog w = .ok 1 w:=by kernel_rfl
theorem under_ints:Tryz.prog.underlying 56 = some (.slice 3):=Tryz.underlying56
theorem info_int:(Tryz.prog.info? 3).map (fun i => (i.zero,i.size,i.bytes)) = some (some (.int .i64 0),1,8):=by kernel_rfl
def IntsOwn (w:World) (base:Nat) (v:Value) (l:List Int):Prop:=w.ownsRow base 3 1 v l.length (l.map intV)
theorem IntsOwn.ints {w:World} {base:Nat} {v:Value} {l:List Int} (h:IntsOwn w base v l) (hn:l.length ≤ 140737488355328) (hl:∀ x ∈ l,i64ok x):IntsAt w v l:=⟨row_seg h hn,hl⟩
theorem IntsOwn.later {w w':World} {base:Nat} {v:Value} {l:List Int} (h:IntsOwn w base v l) (hb:Below w.heap.size w w'):IntsOwn w' base v l:=
 World.ownsRow.kept (row:=none) h (below_grown hb none) (by cases hv:v.ownBlock with | none => exact .inl rfl | some k => exact .inr (by simp))
theorem IntsOwn.form {w:World} {base:Nat} {v:Value} {l:List Int} (h:IntsOwn w base v l):∃ a c,v = .slice a l.length c:=by
 rcases h.2 with ⟨h1,h2⟩ | ⟨g,cap,cur,hv,-⟩
 ·
  exact ⟨none,0,by rw [h1,h2]⟩
 ·
  exact ⟨_,_,hv⟩
theorem ints_append {w:World} {base:Nat} {v x:Value} {l m:List Int} (h:IntsOwn w base v l) (hx:IntsAt w x m) (hlen:l.length + m.length ≤ 17592186044416) (hbase:base ≤ w.heap.size) :
  ∃ v' w',(Builtin.append_ #[56,56] 56 #[v,x]).run Tryz.prog w = .ok v' w' ∧ IntsOwn w' base v' (l ++ m) ∧ w.grownBy w' v.ownBlock ∧ (v'.ownBlock = v.ownBlock ∨ v'.ownBlock = some w.heap.size):=by
 obtain ⟨v',w',hr,hO,hg,hat⟩:=seg_append (P:=Tryz.prog) w base 56 56 3 (.int .i64 0) 1 8 under_ints info_int rfl (by decide) v x l.length m.length _ _ h hx.1
  (by intro u hu;obtain ⟨c,-,rfl⟩:=List.mem_map.1 hu;rfl) (by omega) (by omega) hbase
 refine ⟨v',w',hr,?_,hg,hat⟩
 unfold IntsOwn
 rw [List.length_append,List.map_append]
 exact hO
set_option maxRecDepth 100000 in
set_option maxHeartbeats 4000000 in
theorem clone_ints {w:World} {v:Value} {l:List Int} (h:IntsAt w v l) (hl:l.length ≤ 17592186044416) :
  Calls Tryz.prog 126 #[v] w fun e w' => ∃ v',e = .returned v' ∧ IntsOwn w' w.heap.size v' l ∧ Below w.heap.size w w':=by
 have H:=hid h
 obtain ⟨hlen,a,cap,rfl,hnil,-⟩:=h.open
 obtain ⟨n,HN⟩:∃ n,Hid (n = l.length):=⟨_,rfl⟩
 rw [← HN.out] at hlen H hl ⊢
 clear h
 cases a with
 | none =>
  have:=hnil rfl
  have HE:Hid (l = []):=List.eq_nil_of_length_eq_zero (by have:=HN.out;obtain ⟨-,-,a',c',e,h1,-⟩:=H.out.1;cases e;omega)
  clear hlen hl
  go_enter Tryz.func126,Tryz.ntmps126
  have eqn:=fun W a n c n' c' => Lib.run_eql_slice_nil (P:=Tryz.prog) W 56 _ a n c n' c' under_ints
  go_wp2
  go_ret
  refine ⟨_,rfl,?_,Below.refl _ _⟩
  rw [HE.out]
  exact World.ownsRow_nil _ _ _ _
 | some ad =>
  have hO:IntsOwn (w.alloc (.cells #[] 3)) w.heap.size (.slice (some ⟨w.heap.size,0,none⟩) 0 0) []:=by
   exact World.ownsRow_made (base:=w.heap.size) (e:=3) (size:=1) w #[] 0 (Nat.le_refl _) (by unfold maxLen;omega) rfl
  obtain ⟨v',w',hr,hO',hg,-⟩:=ints_append hO (H.out.below ((Below.refl _ _).alloc (Nat.le_refl _) _)) (by rw [← HN.out];simp;omega) (by simp)
  have hg':Below w.heap.size w w':=((Below.refl w.heap.size w).alloc (Nat.le_refl _) (.cells #[] 3)).grown hg (by simp) (by intro q e;simp [Value.ownBlock] at e;omega)
  have HO:=hid hO'
  have HG:=hid hg'
  clear hO' hg' hg hO
  go_enter Tryz.func126,Tryz.ntmps126
  have eqn:=fun W a n c n' c' => Lib.run_eql_slice_nil (P:=Tryz.prog) W 56 _ a n c n' c' under_ints
  go_wp2_with (at_builtin;refine wpList_append_eq rfl _ _ _ rfl _ _ rfl rfl hr ?_)
  go_ret
  exact ⟨_,rfl,HO.out,HG.out⟩
/-! Two lists,from a place on -/
theorem drop_at {α:Type} {l:List α} {i:Nat} {x:α} (h:l[i]? = some x):l.drop i = x :: l.drop (i + 1):=by
 obtain ⟨hl,e⟩:=List.getElem?_eq_some_iff.1 h
 rw [List.drop_eq_getElem_cons hl,e]
theorem int_get {l:List Int} {n i:Nat} (hn:n = l.length) (h:i < n):∃ x,l[i]? = some x:=⟨_,List.getElem?_eq_getElem (by omega)⟩
theorem same_at {l m:List Int} {i:Nat} {x y:Int} (hx:l[i]? = some x) (hy:m[i]? = some y):(l.drop i = m.drop i) ↔ x = y ∧ l.drop (i + 1) = m.drop (i + 1):=by
 rw [drop_at hx,drop_at hy,List.cons.injEq]
set_option maxRecDepth 100000 in
set_option maxHeartbeats 4000000 in
theorem equal_ints {w:World} {v u:Value} {l m:List Int} (h:IntsAt w v l) (hu:IntsAt w u m) :
  Calls Tryz.prog 128 #[v,u] w fun e w' => e = .returned (.bool (decide (l = m))) ∧ Drew w w':=by
 obtain ⟨hl,a,c,rfl,-,hat⟩:=h.open
 obtain ⟨hm,a2,c2,rfl,-,hbt⟩:=hu.open
 obtain ⟨n,HN⟩:∃ n,Hid (n = l.length):=⟨_,rfl⟩
 obtain ⟨n2,HN2⟩:∃ n,Hid (n = m.length):=⟨_,rfl⟩
 rw [← HN.out] at hl ⊢
 rw [← HN2.out] at hm ⊢
 obtain ⟨z,HZ⟩:∃ z,Hid (z = decide (l = m)):=⟨_,rfl⟩
 rw [← HZ.out]
 have HAT:=hid hat
 have HBT:=hid hbt
 clear hat hbt h hu
 by_cases hnn:n = n2
 ·
  subst hnn
  go_enter Tryz.func128,Tryz.ntmps128
  go_wp2_with fail
  go_loopw [13] (fun v5 wr => ∃ i:Nat,v5 = .int .i64 i ∧ i ≤ n ∧ Hid (z = decide (l.drop i = m.drop i)) ∧ (∃ k,wr = w.drewN k)) (fun v5 _ => n - (intOf v5).toNat)
  case atStart => exact ⟨0,rfl,by omega,by rw [Hid,HZ.out];simp,0,rfl⟩
  case round =>
   obtain ⟨i,rfl,hi,HI,kw,rfl⟩:=hrel
   by_cases h1:i < n
   ·
    obtain ⟨x,hxi⟩:=int_get HN.out h1
    obtain ⟨y,hyi⟩:=int_get HN2.out h1
    obtain ⟨hx64,b,o,ha,g0⟩:=HAT.out i x hxi
    obtain ⟨hy64,b2,o2,ha2,g2⟩:=HBT.out i y hyi
    have HC:=hid (same_at hxi hyi)
    have hix:=index_run1 Tryz.underlying56 size_int ha i h1 (cap:=c)
    have hix2:=index_run1 Tryz.underlying56 size_int ha2 i h1 (cap:=c2)
    clear hxi hyi ha ha2
    by_cases hxy:x = y
    ·
     have HC1:Hid (z = decide (l.drop (i + 1) = m.drop (i + 1))):=by
      rw [Hid,HI.out,decide_eq_decide,HC.out];simp [hxy]
     have hb1:(x != y) = false:=by simpa using hxy
     have hb2:(x == y) = true:=by simpa using hxy
     have HXY:=hid hxy
     clear hxy
     go_wp2_with fail
     go_quiet (fail)
     go_wp2_with fail
     go_roundw
     case rel => exact ⟨i + 1,by go_num,h1,HC1.out,_,rfl⟩
     case measure => simp [intOf];omega
    ·
     have HC1:Hid (z = false):=by
      rw [Hid,HI.out,decide_eq_false_iff_not,HC.out];simp [hxy]
     have hb1:(x != y) = true:=by simpa using hxy
     have hb2:(x == y) = false:=by simpa using hxy
     have HXY:=hid hxy
     clear hxy
     go_wp2_with fail
     go_quiet (fail)
     go_wp2_with fail
     go_ret
     exact ⟨by rw [HC1.out];first | done | rfl,_,World.drewN_drewN _ _ _⟩
   ·
    obtain rfl:i = n:=by omega
    have HC1:Hid (z = true):=by
     rw [Hid,HI.out,List.drop_eq_nil_of_le (by rw [← HN.out];omega),List.drop_eq_nil_of_le (by rw [← HN2.out];omega)];simp
    go_wp2_with fail
    go_ret
    exact ⟨by rw [HC1.out];first | done | rfl,_,rfl⟩
 ·
  have HC1:Hid (z = false):=by
   rw [Hid,HZ.out,decide_eq_false_iff_not];rintro rfl;exact hnn (by rw [HN.out,HN2.out])
  have e1:decide ((n:Int) = n2) = false:=decide_eq_false (by omega)
  have e2:((n:Int) == n2) = false:=by simp;omega
  have e3:(n == n2) = false:=by simp;omega
  clear hnn
  go_enter Tryz.func128,Tryz.ntmps128
  go_wp2_with fail
  go_ret
  exact ⟨by rw [HC1.out];first | done | rfl,0,rfl⟩
/-! The order of ways -/
def cmpW:List Int → List Int → Int
 | [],[] => 0
 | [],_ :: _ => -1
 | _ :: _,[] => 1
 | x :: a,y :: b => if x < y then -1 else if y < x then 1 else cmpW a b
theorem cmpW_iff:∀ a b,cmpW a b < 0 ↔ ltW a b = true
 | [],[] => by simp [cmpW,ltW]
 | [],_ :: _ => by simp [cmpW,ltW]
 | _ :: _,[] => by simp [cmpW,ltW]
 | x :: a,y :: b => by
  have ih:=cmpW_iff a b
  simp only [cmpW,ltW]
  by_cases h1:x < y
  ·
   rw [if_pos h1,if_neg (by omega)];simp [h1]
  ·
   rw [if_neg h1]
   by_cases h2:y < x
   ·
    rw [if_pos h2,if_neg (by omega)];simp;omega
   ·
    rw [if_neg h2,if_pos (by omega)];exact ih
theorem cmpW_lt (a b:List Int):decide (cmpW a b < 0) = ltW a b:=by
 rw [Bool.eq_iff_iff,decide_eq_true_iff];exact cmpW_iff a b
theorem cmpW_at {l m:List Int} {i:Nat} {x y:Int} (hx:l[i]? = some x) (hy:m[i]? = some y):cmpW (l.drop i) (m.drop i) = if x < y then -1 else if y < x then 1 else cmpW (l.drop (i + 1)) (m.drop (i + 1)):=by
 rw [drop_at hx,drop_at hy,cmpW]
theorem cmpW_end1 {l m:List Int} {i:Nat} (hx:l.length ≤ i):cmpW (l.drop i) (m.drop i) = if i < m.length then -1 else 0:=by
 rw [List.drop_eq_nil_of_le hx]
 split
 ·
  rename_i h;rw [List.drop_eq_getElem_cons h];rfl
 ·
  rw [List.drop_eq_nil_of_le (by omega)];rfl
theorem cmpW_end2 {l m:List Int} {i:Nat} (hx:i < l.length) (hy:m.length ≤ i):cmpW (l.drop i) (m.drop i) = 1:=by
 rw [List.drop_eq_nil_of_le hy,List.drop_eq_getElem_cons hx];rfl
set_option maxRecDepth 100000 in
set_option maxHeartbeats 4000000 in
theorem cmp_Compare_int (x y:Int) (w:World) :
  Calls Tryz.prog 114 #[.int .i64 x,.int .i64 y] w fun e w' => e = .returned (.int .i64 (if x < y then -1 else if y < x then 1 else 0)) ∧ w = w':=by
 by_cases h1:x < y
 ·
  rw [if_pos h1]
  have e2:¬ y < x:=by omega
  go_enter Tryz.func114,Tryz.ntmps114
  go_wp2
  go_ret
  exact ⟨rfl,rfl⟩
 ·
  rw [if_neg h1]
  by_cases h2:y < x
  ·
   rw [if_pos h2]
   go_enter Tryz.func114,Tryz.ntmps114
   go_wp2
   go_ret
   exact ⟨rfl,rfl⟩
  ·
   rw [if_neg h2]
   go_enter Tryz.func114,Tryz.ntmps114
   go_wp2
   go_ret
   exact ⟨rfl,rfl⟩
set_option maxRecDepth 100000 in
set_option maxHeartbeats 4000000 in
theorem compare_ints {w:World} {v u:Value} {l m:List Int} (h:IntsAt w v l) (hu:IntsAt w u m) :
  Calls Tryz.prog 124 #[v,u] w fun e w' => e = .returned (.int .i64 (cmpW l m)) ∧ w' = w:=by
 obtain ⟨hl,a,c,rfl,-,hat⟩:=h.open
 obtain ⟨hm,a2,c2,rfl,-,hbt⟩:=hu.open
 obtain ⟨n,HN⟩:∃ n,Hid (n = l.length):=⟨_,rfl⟩
 obtain ⟨n2,HN2⟩:∃ n,Hid (n = m.length):=⟨_,rfl⟩
 rw [← HN.out] at hl ⊢
 rw [← HN2.out] at hm ⊢
 obtain ⟨z,HZ⟩:∃ z,Hid (z = cmpW l m):=⟨_,rfl⟩
 rw [← HZ.out]
 have HAT:=hid hat
 have HBT:=hid hbt
 clear hat hbt h hu
 go_enter Tryz.func124,Tryz.ntmps124
 go_wp2_with fail
 go_loop [11] (fun v5 => ∃ i:Nat,v5 = .int .i64 i ∧ i ≤ n ∧ i ≤ n2 ∧ Hid (z = cmpW (l.drop i) (m.drop i))) (fun v5 => n - (intOf v5).toNat)
 case atStart => exact ⟨0,rfl,by omega,by omega,by rw [Hid,HZ.out];simp⟩
 case round =>
  obtain ⟨i,rfl,hi,hi2,HI⟩:=hrel
  by_cases h1:i < n
  ·
   obtain ⟨x,hxi⟩:=int_get HN.out h1
   obtain ⟨hx64,b,o,ha,g0⟩:=HAT.out i x hxi
   have hix:=index_run1 Tryz.underlying56 size_int ha i h1 (cap:=c)
   by_cases h2:i < n2
   ·
    obtain ⟨y,hyi⟩:=int_get HN2.out h2
    obtain ⟨hy64,b2,o2,ha2,g2⟩:=HBT.out i y hyi
    have HC:=hid (cmpW_at hxi hyi)
    have hix2:=index_run1 Tryz.underlying56 size_int ha2 i h2 (cap:=c2)
    have hge:¬ (n2 ≤ i):=by omega
    clear hxi hyi ha ha2
    obtain ⟨q,HQ⟩:∃ q,Hid (q = (if x < y then -1 else if y < x then 1 else 0:Int)):=⟨_,rfl⟩
    by_cases hq:q = 0
    ·
     have HC1:Hid (z = cmpW (l.drop (i + 1)) (m.drop (i + 1))):=by
      have e1:¬ x < y:=fun h => by have:=HQ.out;rw [if_pos h] at this;omega
      have e2:¬ y < x:=fun h => by have:=HQ.out;rw [if_neg e1,if_pos h] at this;omega
      rw [Hid,HI.out,HC.out,if_neg e1,if_neg e2]
     subst hq
     go_wp2_with (go_at_call 114;refine (cmp_Compare_int x y _).mono ?_;rintro e w' ⟨rfl,rfl⟩;rw [← HQ.out])
     go_round
     case rel => exact ⟨i + 1,by go_num,h1,h2,HC1.out⟩
     case measure => simp [intOf];omega
    ·
     have HC1:Hid (z = q):=by
      rw [Hid,HI.out,HC.out,HQ.out]
      by_cases e1:x < y
      ·
       rw [if_pos e1,if_pos e1]
      ·
       rw [if_neg e1,if_neg e1]
       by_cases e2:y < x
       ·
        rw [if_pos e2,if_pos e2]
       ·
        exact absurd (by rw [HQ.out,if_neg e1,if_neg e2]) hq
     have hb1:(q != 0) = true:=by simpa using hq
     have hb2:(q == 0) = false:=by simpa using hq
     clear hq
     go_wp2_with (go_at_call 114;refine (cmp_Compare_int x y _).mono ?_;rintro e w' ⟨rfl,rfl⟩;rw [← HQ.out])
     go_ret
     exact ⟨by rw [HC1.out];first | done | rfl,rfl⟩
   ·
    have HC1:Hid (z = 1):=by
     rw [Hid,HI.out,cmpW_end2 (by rw [← HN.out];exact h1) (by rw [← HN2.out];omega)]
    have hge:n2 ≤ i:=by omega
    clear hxi ha
    go_wp2_with fail
    go_ret
    exact ⟨by rw [HC1.out];first | done | rfl,rfl⟩
  ·
   obtain rfl:i = n:=by omega
   by_cases h2:i < n2
   ·
    have HC1:Hid (z = -1):=by
     rw [Hid,HI.out,cmpW_end1 (by rw [← HN.out];omega),if_pos (by rw [← HN2.out];exact h2)]
    go_wp2_with fail
    go_ret
    exact ⟨by rw [HC1.out];first | done | rfl,rfl⟩
   ·
    have HC1:Hid (z = 0):=by
     rw [Hid,HI.out,cmpW_end1 (by rw [← HN.out];omega),if_neg (by rw [← HN2.out];exact h2)]
    go_wp2_with fail
    go_ret
    exact ⟨by rw [HC1.out];first | done | rfl,rfl⟩
theorem IntsAt.h {w:World} {a:Option Addr} {n cap:Nat} {l:List Int} (h:IntsAt w (.slice a n cap) l) (hn:n = l.length) (j:Nat) (hj:j ≤ n) :
  ∃ a' cap',(∀ W,(Instr.slice 56 (.slice a n cap) none (some (.int .i64 (j:Int))) none).run Tryz.prog W = .ok (.slice a' j cap') W) ∧ IntsAt w (.slice a' j cap') (l.take j):=by
 subst hn
 have hcap:l.length ≤ cap:=by obtain ⟨⟨_,_,a',cap',hv,h3,_⟩,-⟩:=h;cases hv;exact h3
 have hr:=fun W => slice_h_run (P:=Tryz.prog) under_ints size_int a l.length cap j (by omega) W
 have hs:=Seg.sub h.1 0 j (by omega) hj
 unfold sliced at hr hs
 refine ⟨_,_,hr,⟨?_,fun x hx => h.2 x (List.mem_of_mem_take hx)⟩⟩
 rw [List.length_take,Nat.min_eq_left (by omega),List.map_take]
 simpa using hs
theorem IntsAt.l {w:World} {a:Option Addr} {n cap:Nat} {l:List Int} (h:IntsAt w (.slice a n cap) l) (hn:n = l.length) (i:Nat) (hi:i ≤ n) :
  ∃ a' cap',(∀ W,(Instr.slice 56 (.slice a n cap) (some (.int .i64 (i:Int))) none none).run Tryz.prog W = .ok (.slice a' (n - i) cap') W) ∧ IntsAt w (.slice a' (n - i) cap') (l.drop i):=by
 subst hn
 have hr:=fun W => slice_l_run (P:=Tryz.prog) under_ints size_int a l.length cap i (by omega) W
 have hs:=Seg.sub h.1 i l.length hi (Nat.le_refl _)
 unfold sliced at hr hs
 refine ⟨_,_,hr,⟨?_,fun x hx => h.2 x (List.mem_of_mem_drop hx)⟩⟩
 rw [List.length_drop,List.map_drop]
 rw [List.take_of_length_le (by simp)] at hs
 simpa using hs
set_option maxRecDepth 100000 in
set_option maxHeartbeats 4000000 in
theorem mask_begins {w:World} {v u:Value} {l m:List Int} (h:IntsAt w v l) (hu:IntsAt w u m) :
  Calls Tryz.prog 125 #[v,u] w fun e w' => e = .returned (.bool (beginsW l m)) ∧ Drew w w':=by
 have H:=hid h
 have HU:=hid hu
 obtain ⟨hl,a,c,rfl,-,-⟩:=h.open
 obtain ⟨hm,a2,c2,rfl,-,-⟩:=hu.open
 obtain ⟨n,HN⟩:∃ n,Hid (n = l.length):=⟨_,rfl⟩
 obtain ⟨n2,HN2⟩:∃ n,Hid (n = m.length):=⟨_,rfl⟩
 rw [← HN.out] at hl H ⊢
 rw [← HN2.out] at hm HU ⊢
 obtain ⟨z,HZ⟩:∃ z,Hid (z = beginsW l m):=⟨_,rfl⟩
 rw [← HZ.out]
 clear h hu
 by_cases hn:n2 ≤ n
 ·
  obtain ⟨a',c',hsl,hI⟩:=H.out.h HN.out n2 hn
  have HI:=hid hI
  have HZ2:Hid (decide (l.take n2 = m) = z):=by
   rw [Hid,HZ.out,beginsW,← HN2.out,← HN.out,decide_eq_true hn,Bool.true_and]
  clear hI
  go_enter Tryz.func125,Tryz.ntmps125
  go_wp2_with (go_at_call 128;refine (equal_ints HI.out HU.out).mono ?_;rintro e w' ⟨rfl,kw,rfl⟩;rw [HZ2.out])
  go_ret
  exact ⟨rfl,_,rfl⟩
 ·
  have HZ2:Hid (z = false):=by
   rw [Hid,HZ.out,beginsW,← HN2.out,← HN.out,decide_eq_false hn,Bool.false_and]
  have hn2:¬ ((n2:Int) ≤ n):=by omega
  go_enter Tryz.func125,Tryz.ntmps125
  go_wp2_with fail
  go_ret
  exact ⟨by rw [HZ2.out];first | done | rfl,0,rfl⟩
theorem wpList_append_int {w W:World} {ops:Array Oper} {rest:List Oper} {o:Oper} {a:Act} {Q:Exit → Act → World → Prop} (hgd:o.guard = none) (s x:Operand)
  (ho:o.op = .call { callee:=.builtin .append,args:=#[s,x],argTypes:=#[56,56] }) (hty:o.type = 56) (v:Value) (y:Int) (q:Nat) (hs:a.eval s = v) (hx:a.eval x = .slice (some ⟨q,0,none⟩) 1 1) (hw:w = W.alloc (.cells #[.int .i64 y] 3)) (hq:q = W.heap.size)
  (base:Nat) (l:List Int) (hown:IntsOwn W base v l) (hy:i64ok y) (hl:l.length ≤ 1099511627776) (hb:base ≤ W.heap.size)
  (h:∀ a' c' w',IntsOwn w' base (.slice a' (l.length + 1) c') (l ++ [y]) → (∀ w0:World,Below base w0 W → Below base w0 w') → (∀ b,b < W.heap.size → v.ownBlock ≠ some b → w'.heap[b]? = W.heap[b]?) → wpList Tryz.prog ops Q rest (a.put o.dst (.slice a' (l.length + 1) c')) w'):wpList Tryz.prog ops Q (o :: rest) a w:=by
 subst hw
 subst hq
 have hA:Below W.heap.size W (W.alloc (.cells #[.int .i64 y] 3)):=(Below.refl _ _).alloc (Nat.le_refl _) _
 have hI:IntsAt (W.alloc (.cells #[.int .i64 y] 3)) (.slice (some ⟨W.heap.size,0,none⟩) 1 1) [y]:=by
  refine ⟨⟨rfl,by simp,_,_,rfl,Nat.le_refl _,by simp,by simp,fun j u hu => ⟨_,_,rfl,?_⟩⟩,by simpa using hy⟩
  rw [Nat.zero_add,cell_of_row _ _ _ #[.int .i64 y] _ (0,0) (heap_alloc_new W _)]
  simpa [intV] using hu
 obtain ⟨v',w',hr,hO,hg,-⟩:=ints_append (hown.later hA) hI (by simp;omega) (by simp;omega)
 obtain ⟨a',c',e⟩:=hO.form
 rw [List.length_append] at e
 have e':v' = .slice a' (l.length + 1) c':=e
 subst e'
 refine wpList_append_eq hgd s x 56 ho v _ hs hx (by rw [hty];exact hr) (h a' c' w' hO (fun w0 hb0 => ?_) fun b hb2 hne => (hg.block b (by simp;omega) (fun e => hne e.symm)).trans (Below.heap_alloc W _ b hb2))
 exact (hb0.alloc hb _).grown hg (by have:=hb0.size;simp;omega) (fun q e => (World.ownsRow.lt hown q e).1)
end Go.Proofs.YtfimpmennkfjcaaGreatDoor
