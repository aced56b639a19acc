/- Parts of a proof: texts of the author, merged. No condition of their own. -/
import Derived.Test.YtphkmpnahnakaaaGreatZ08
import Derived.Test.YtphkmpnahnakaaaGreatZ11
import Derived.Test.YtphkmpnahnakaaaGreatZ16
import Derived.Test.YtphkmpnahnakaaaGreatZ17
import Derived.Test.YtphkmpnahnakaaaGreatZ18
import Derived.Test.YtphkmpnahnakaaaGreatZ25
import Derived.Lib.AppendZerosOnto
namespace Go.Proofs.YtphkmpnahnakaaaGreat
open Go.RowKit
end Go.Proofs.YtphkmpnahnakaaaGreat
namespace Go.Proofs.YtphkmpnahnakaaaGreat
open Go.RowKit Go.Shelf
theorem WordsOwn.own {w:World} {base:Nat} {v:Value} {l:List Nat} (h:WordsOwn w base v l) (b:Nat) (e:v.ownBlock = some b):base ≤ b ∧ b < w.heap.size:=World.ownsRow.lt h b e
theorem words_app {w:World} {base:Nat} {v x:Value} {l m:List Nat} (h:WordsOwn w base v l) (hx:WordsAt w x m) (hlen:l.length + m.length ≤ 17592186044416) (hbase:base ≤ w.heap.size) :
  ∃ v' w',(Builtin.append_ #[90,90] 90 #[v,x]).run Tryz.prog w = .ok v' w' ∧ WordsOwn w' base v' (l ++ m) ∧ w.grownBy w' v.ownBlock ∧ (v'.ownBlock = v.ownBlock ∨ ∃ b,v'.ownBlock = some b ∧ w.heap.size ≤ b):=by
 obtain ⟨v',w',hr,hO,hg,hat⟩:=seg_append (P:=Tryz.prog) w base 90 90 98 (.int .u64 0) 1 8 under_words info_u64 rfl (by decide) v x l.length m.length _ _ h hx.1
  (by intro u hu;obtain ⟨c,-,rfl⟩:=List.mem_map.1 hu;rfl) (by omega) (by omega) hbase
 refine ⟨v',w',hr,?_,hg,hat.imp id fun e => ⟨_,e,Nat.le_refl _⟩⟩
 unfold WordsOwn
 rw [List.length_append,List.map_append]
 exact hO
theorem word_app1 {W:World} {base:Nat} {v:Value} {l:List Nat} (h:WordsOwn W base v l) (y:Nat) (hn:l.length ≤ 1099511627776) (hB:base ≤ W.heap.size) :
  ∃ v' w',(Builtin.append_ #[90,90] 90 #[v,.slice (some ⟨W.heap.size,0,none⟩) 1 1]).run Tryz.prog (W.alloc (.cells #[.int .u64 (y:Int)] 98)) = .ok v' w' ∧ WordsOwn w' base v' (l ++ [y]) ∧ W.grownBy w' v.ownBlock ∧ (v'.ownBlock = v.ownBlock ∨ ∃ b,v'.ownBlock = some b ∧ W.heap.size ≤ b):=by
 have hA:Below W.heap.size W (W.alloc (.cells #[.int .u64 (y:Int)] 98)):=(Below.refl _ _).alloc (Nat.le_refl _) _
 have hx:Seg (W.alloc (.cells #[.int .u64 (y:Int)] 98)) (.slice (some ⟨W.heap.size,0,none⟩) 1 1) 1 1 [.int .u64 (y:Int)]:=seg_blk (Blk.new W [.int .u64 (y:Int)] _) 1 1 rfl (by omega)
 obtain ⟨v',w',h1,h2,h3,h4⟩:=seg_append (P:=Tryz.prog) _ base 90 90 98 (.int .u64 0) 1 8 under_words info_u64 rfl (by decide) v _ l.length 1 _ _ (h.later hA) hx (by intro u hu;simp at hu;subst hu;rfl) (by omega) (by omega) (by simp;omega)
 refine ⟨v',w',h1,?_,⟨h3.os,h3.tape,h3.output,Nat.le_trans (by simp) h3.size,fun k hk hr => (h3.block k (by simp;omega) hr).trans (Below.heap_alloc W _ k hk)⟩,h4.imp id fun e => ⟨_,e,by simp⟩⟩
 unfold WordsOwn
 rw [List.length_append,List.map_append]
 exact h2
theorem WordsOwn.form' {w:World} {base:Nat} {v:Value} {l:List Nat} (h:WordsOwn w base v l):∃ a n c,v = .slice a n c:=by
 obtain ⟨a,c,e⟩:=h.form;exact ⟨a,_,c,e⟩
end Go.Proofs.YtphkmpnahnakaaaGreat
namespace Go.Proofs.YtphkmpnahnakaaaGreat
open Go.RowKit
end Go.Proofs.YtphkmpnahnakaaaGreat
namespace Go.Proofs.YtphkmpnahnakaaaGreat
open Go.RowKit
def ROfOk (w0:World) (sv:Value) (s:List Mes) (d:Nat):Prop:=∀ (m:Nat) (w:World) (v:Value) (l:List UInt8),m < s.length → Below w0.heap.size w0 w → Bytes w v l → l.length ≤ 1099511627776 → (vmsg s d m l).2 = 0 →
 Calls Tryz.prog 23 #[sv,.int .i64 (m:Int),v] w fun e w' => ∃ v',e = .returned v' ∧ Below w.heap.size w w' ∧ Apart 0 w.heap.size w' fun w2 => MsgAt (d + 1) w2 v' (tof s d m l)
end Go.Proofs.YtphkmpnahnakaaaGreat
namespace Go.Proofs.YtphkmpnahnakaaaGreat
open Go.RowKit Go.Shelf
def OfSt (W5:World) (F:Nat) (s:List Mes) (d:Nat) (f:Fld) (l:List UInt8) (xs:List VW) (w:World) (j s1 s2 s3:Value):Prop:=
 Below (F + 1) W5 w ∧ Blk w (F + 1) [.int .i64 f.number,s1,s2,s3] 93 ∧ OfInv s d f l xs (F + 1 + 1) w j s1 s2 s3
def OfMid (W5:World) (F:Nat) (s:List Mes) (d:Nat) (f:Fld) (l:List UInt8) (xs:List VW) (w:World) (j s1 s2 s3:Value):Prop:=
 Below (F + 1) W5 w ∧ Blk w (F + 1) [.int .i64 f.number,s1,s2,s3] 93 ∧
 (knumber f.kind = true → s2 = noneS ∧ s3 = noneS ∧ j = noneS ∧ WordsOwn w (F + 1 + 1) s1 (if f.rep = true then (counts f xs).flatMap (pieceW f l) else [])) ∧
 (f.kind = 17 → s1 = noneS ∧ s2 = noneS ∧
  (f.rep = true → j = noneS ∧ RowsOwn (SubP d) 78 2 0 (F + 1 + 1) w s3 (xs.flatMap fun x => tsub s d f.of (vbytes l x))) ∧
  (f.rep = false → s3 = noneS ∧ Own w (F + 1 + 1) j (xs.flatMap (vbytes l)))) ∧
 (knumber f.kind = false → f.kind ≠ 17 → s1 = noneS ∧ s3 = noneS ∧ j = noneS ∧ StrsOwn w (F + 1 + 1) s2 (if f.rep = true then (counts f xs).flatMap (pieceB f l) else []))
theorem OfSt.mid {W5:World} {F:Nat} {s:List Mes} {d:Nat} {f:Fld} {l:List UInt8} {xs:List VW} {w:World} {j s1 s2 s3:Value} (h:OfSt W5 F s d f l xs w j s1 s2 s3) (hr:f.rep = true):OfMid W5 F s d f l xs w j s1 s2 s3:=by
 refine ⟨h.1,h.2.1,fun hk => ?_,fun h17 => ?_,fun hk h17 => ?_⟩
 ·
  rw [if_pos hr];exact h.2.2.1 hk
 ·
  exact h.2.2.2.1 h17
 ·
  rw [if_pos hr];exact h.2.2.2.2 hk h17
theorem OfSt.clear {W5:World} {F:Nat} {s:List Mes} {d:Nat} {f:Fld} {l:List UInt8} {xs:List VW} {w:World} {j s1 s2 s3:Value} (h:OfSt W5 F s d f l xs w j s1 s2 s3) (hr:f.rep = false) :
  OfMid W5 F s d f l xs ((w.setCell ⟨F + 1,1,none⟩ noneS).setCell ⟨F + 1,2,none⟩ noneS) j noneS noneS s3:=by
 have hne:¬ f.rep = true:=by simp [hr]
 have hk:∀ b,F + 1 + 1 ≤ b → ((w.setCell ⟨F + 1,1,none⟩ noneS).setCell ⟨F + 1,2,none⟩ noneS).heap[b]? = w.heap[b]?:=fun b hb => by
  rw [Below.heap_setCell _ _ _ b (by show b ≠ F + 1;omega),Below.heap_setCell _ _ _ b (by show b ≠ F + 1;omega)]
 have h2:=h.2.2.keep (w':=(w.setCell ⟨F + 1,1,none⟩ noneS).setCell ⟨F + 1,2,none⟩ noneS) (fun b hb _ => hk b hb) (by simp)
 refine ⟨(h.1.setCell (by show F + 1 ≤ F + 1;omega) _).setCell (by show F + 1 ≤ F + 1;omega) _,by simpa using (h.2.1.set 1 noneS).set 2 noneS,fun hk => ?_,fun h17 => ?_,fun hk h17 => ?_⟩
 ·
  rw [if_neg hne]
  obtain ⟨-,g2,g3,-⟩:=h2.1 hk
  exact ⟨rfl,g2,g3,World.ownsRow_nil _ _ _ _⟩
 ·
  obtain ⟨-,-,g3,g4⟩:=h2.2.1 h17
  exact ⟨rfl,rfl,g3,g4⟩
 ·
  rw [if_neg hne]
  obtain ⟨-,g2,g3,-⟩:=h2.2.2 hk h17
  exact ⟨rfl,g2,g3,World.ownsRow_nil _ _ _ _⟩
theorem box_push {W5 w w2:World} {F size n:Nat} {e T:TypeId} {cs ys:List Value} {v:Value} (hB:Below (F + 1) W5 w) (hs:F + 1 + 1 ≤ w.heap.size) (hb:Blk w (F + 1) cs T) (ho:w.ownsRow (F + 1 + 1) e size v n ys) (hg:w.grownBy w2 v.ownBlock):Below (F + 1) W5 w2 ∧ Blk w2 (F + 1) cs T:=
 ⟨hB.grown hg (by omega) (fun q e => by have:=(World.ownsRow.lt ho q e).1;omega),(hg.block (F + 1) hb.lt (fun e => by have:=(World.ownsRow.lt ho _ e.symm).1;omega)).trans hb⟩
theorem own_set {w:World} {F size n k:Nat} {e:TypeId} {ys:List Value} {v x:Value} (h:w.ownsRow (F + 1 + 1) e size v n ys):(w.setCell ⟨F + 1,k,none⟩ x).ownsRow (F + 1 + 1) e size v n ys:=
 row_keep h fun b _ hb _ => Below.heap_setCell w _ _ b (by show b ≠ F + 1;omega)
theorem OfMid.num {W5:World} {F:Nat} {s:List Mes} {d:Nat} {f:Fld} {l:List UInt8} {xs:List VW} {w w2:World} {j s1 s2 s3 v2:Value} {x:VW} (h:OfMid W5 F s d f l xs w j s1 s2 s3) (hk:knumber f.kind = true) (hg:Below (F + 1) W5 w2) (hb:Blk w2 (F + 1) [.int .i64 f.number,s1,s2,s3] 93)
  (hO:WordsOwn w2 (F + 1 + 1) v2 ((if f.rep = true then (counts f xs).flatMap (pieceW f l) else []) ++ pieceW f l x)):OfSt W5 F s d f l (xs ++ [x]) (w2.setCell ⟨F + 1,1,none⟩ v2) j v2 s2 s3:=by
 obtain ⟨rfl,rfl,rfl,-⟩:=h.2.2.1 hk
 exact ⟨hg.setCell (by show F + 1 ≤ F + 1;omega) _,by simpa using hb.set 1 v2,OfInv.num hk _ rfl (own_set hO)⟩
theorem OfMid.text {W5:World} {F:Nat} {s:List Mes} {d:Nat} {f:Fld} {l:List UInt8} {xs:List VW} {w w2:World} {j s1 s2 s3 v2:Value} {x:VW} (h:OfMid W5 F s d f l xs w j s1 s2 s3) (hk:knumber f.kind = false) (h17:f.kind ≠ 17) (hx:x.run = false) (hg:Below (F + 1) W5 w2) (hb:Blk w2 (F + 1) [.int .i64 f.number,s1,s2,s3] 93)
  (hO:StrsOwn w2 (F + 1 + 1) v2 ((if f.rep = true then (counts f xs).flatMap (pieceB f l) else []) ++ [vbytes l x])):OfSt W5 F s d f l (xs ++ [x]) (w2.setCell ⟨F + 1,2,none⟩ v2) j s1 v2 s3:=by
 obtain ⟨rfl,rfl,rfl,-⟩:=h.2.2.2.2 hk h17
 exact ⟨hg.setCell (by show F + 1 ≤ F + 1;omega) _,by simpa using hb.set 2 v2,OfInv.text hk h17 hx (own_set hO)⟩
theorem OfMid.sub {W5:World} {F:Nat} {s:List Mes} {d:Nat} {f:Fld} {l:List UInt8} {xs:List VW} {w w2:World} {j s1 s2 s3 v2:Value} {x:VW} (h:OfMid W5 F s d f l xs w j s1 s2 s3) (h17:f.kind = 17) (hr:f.rep = true) (hg:Below (F + 1) W5 w2) (hb:Blk w2 (F + 1) [.int .i64 f.number,s1,s2,s3] 93)
  (hO:RowsOwn (SubP d) 78 2 0 (F + 1 + 1) w2 v2 ((xs.flatMap fun x => tsub s d f.of (vbytes l x)) ++ tsub s d f.of (vbytes l x))):OfSt W5 F s d f l (xs ++ [x]) (w2.setCell ⟨F + 1,3,none⟩ v2) j s1 s2 v2:=by
 obtain ⟨rfl,rfl,g,-⟩:=h.2.2.2.1 h17
 obtain ⟨rfl,-⟩:=g hr
 refine ⟨hg.setCell (by show F + 1 ≤ F + 1;omega) _,by simpa using hb.set 3 v2,OfInv.sub h17 hr (hO.later (fun b _ hc => Below.heap_setCell w2 _ _ b ?_) (by simp))⟩
 show b ≠ F + 1
 omega
theorem OfMid.join {W5:World} {F:Nat} {s:List Mes} {d:Nat} {f:Fld} {l:List UInt8} {xs:List VW} {w w2:World} {j s1 s2 s3 v2:Value} {x:VW} (h:OfMid W5 F s d f l xs w j s1 s2 s3) (h17:f.kind = 17) (hr:f.rep = false) (hg:Below (F + 1) W5 w2) (hb:Blk w2 (F + 1) [.int .i64 f.number,s1,s2,s3] 93)
  (hO:Own w2 (F + 1 + 1) v2 (xs.flatMap (vbytes l) ++ vbytes l x)):OfSt W5 F s d f l (xs ++ [x]) w2 v2 s1 s2 s3:=by
 obtain ⟨rfl,rfl,-,g⟩:=h.2.2.2.1 h17
 obtain ⟨rfl,-⟩:=g hr
 exact ⟨hg,hb,OfInv.join h17 hr hO⟩
theorem OfSt.drewN {W5:World} {F:Nat} {s:List Mes} {d:Nat} {f:Fld} {l:List UInt8} {xs:List VW} {w:World} {j s1 s2 s3:Value} (h:OfSt W5 F s d f l xs w j s1 s2 s3) (n:Nat):OfSt W5 F s d f l xs (w.drewN n) j s1 s2 s3:=
 ⟨below_drewN h.1 _,h.2.1,h.2.2⟩
theorem words_append {w:World} {base:Nat} {v x:Value} {l m:List Nat} (h:WordsOwn w base v l) (hx:WordsAt w x m) (hlen:l.length + m.length ≤ 17592186044416) (hbase:base ≤ w.heap.size) :
  ∃ a c w',(Builtin.append_ #[90,90] 90 #[v,x]).run Tryz.prog w = .ok (.slice a (l.length + m.length) c) w' ∧ WordsOwn w' base (.slice a (l.length + m.length) c) (l ++ m) ∧ w.grownBy w' v.ownBlock:=by
 obtain ⟨v',w',hr,hO,hg,hat⟩:=seg_append (P:=Tryz.prog) w base 90 90 98 (.int .u64 0) 1 8 under_words info_u64 rfl (by decide) v x l.length m.length _ _ h hx.1
  (by intro u hu;obtain ⟨c,-,rfl⟩:=List.mem_map.1 hu;rfl) (by omega) (by omega) hbase
 have h2:WordsOwn w' base v' (l ++ m):=by
  unfold WordsOwn
  rw [List.length_append,List.map_append]
  exact hO
 obtain ⟨a,c,rfl⟩:=h2.form
 rw [List.length_append] at h2 hr
 exact ⟨a,c,w',hr,h2,hg⟩
theorem OfMid.run_push {W5:World} {F:Nat} {s:List Mes} {d:Nat} {f:Fld} {l:List UInt8} {xs:List VW} {w w6:World} {j s1 s2 s3 v6:Value} {x:VW} (h:OfMid W5 F s d f l xs w j s1 s2 s3) (hs:F + 1 + 1 ≤ w.heap.size) (hk:knumber f.kind = true) (hb6:Below w.heap.size w w6)
  {ws:List Nat} (hO6:WordsOwn w6 w.heap.size v6 ws) (hpw:pieceW f l x = ws) (hws:ws.length ≤ 1099511627776) (ht:∀ y ∈ xs,Thin y) (hl:vsum xs ≤ 1099511627776) :
  ∃ a5 n5 c5 w7,(Builtin.append_ #[90,90] 90 #[s1,v6]).run Tryz.prog w6 = .ok (.slice a5 n5 c5) w7 ∧ Blk w6 (F + 1) [.int .i64 f.number,s1,s2,s3] 93 ∧ Blk w7 (F + 1) [.int .i64 f.number,s1,s2,s3] 93 ∧
   OfSt W5 F s d f l (xs ++ [x]) (w7.setCell ⟨F + 1,1,none⟩ (.slice a5 n5 c5)) j (.slice a5 n5 c5) s2 s3:=by
 obtain ⟨-,-,-,ho⟩:=h.2.2.1 hk
 have hb:=words_bound (f:=f) (l:=l) ht
 have hll:(if f.rep = true then (counts f xs).flatMap (pieceW f l) else []).length ≤ 1099511627776:=by
  split
  ·
   omega
  ·
   simp
 have hlt:∀ y ∈ ws,y < 2 ^ 64:=by rw [← hpw];exact fun y hy => pieceW_lt hy
 obtain ⟨a5,c5,w7,hr,hO,hg⟩:=words_append (ho.later hb6) (hO6.words (by omega) hlt) (by omega) (by have:=hb6.size;omega)
 have b6:Blk w6 (F + 1) _ _:=h.2.1.below hb6
 have hB6:Below (F + 1) W5 w6:=h.1.trans (hb6.mono (by omega))
 obtain ⟨g1,g2⟩:=box_push hB6 (by have:=hb6.size;omega) b6 (ho.later hb6) hg
 refine ⟨a5,_,c5,w7,hr,b6,g2,OfMid.num h hk g1 g2 ?_⟩
 rw [hpw];exact hO
theorem OfMid.num_push {W5:World} {F:Nat} {s:List Mes} {d:Nat} {f:Fld} {l:List UInt8} {xs:List VW} {w:World} {j s1 s2 s3:Value} {x:VW} (h:OfMid W5 F s d f l xs w j s1 s2 s3) (hs:F + 1 + 1 ≤ w.heap.size) (hk:knumber f.kind = true)
  {y:Nat} (hpw:pieceW f l x = [y]) (ht:∀ y ∈ xs,Thin y) (hl:vsum xs ≤ 1099511627776) :
  ∃ a5 n5 c5 w7,(Builtin.append_ #[90,90] 90 #[s1,.slice (some ⟨w.heap.size,0,none⟩) 1 1]).run Tryz.prog (w.alloc (.cells #[.int .u64 (y:Int)] 98)) = .ok (.slice a5 n5 c5) w7 ∧ Blk w7 (F + 1) [.int .i64 f.number,s1,s2,s3] 93 ∧
   OfSt W5 F s d f l (xs ++ [x]) (w7.setCell ⟨F + 1,1,none⟩ (.slice a5 n5 c5)) j (.slice a5 n5 c5) s2 s3:=by
 obtain ⟨-,-,-,ho⟩:=h.2.2.1 hk
 have hb:=words_bound (f:=f) (l:=l) ht
 have hll:(if f.rep = true then (counts f xs).flatMap (pieceW f l) else []).length ≤ 1099511627776:=by
  split
  ·
   omega
  ·
   simp
 obtain ⟨v',w7,hr,hO,hg⟩:=ho.one y hll hs
 obtain ⟨a5,c5,rfl⟩:=hO.form
 obtain ⟨g1,g2⟩:=box_push h.1 hs h.2.1 ho hg
 refine ⟨a5,_,c5,w7,hr,g2,OfMid.num h hk g1 g2 ?_⟩
 rw [hpw];exact hO
theorem OfMid.text_push {W5:World} {F:Nat} {s:List Mes} {d:Nat} {f:Fld} {l:List UInt8} {xs:List VW} {w:World} {j s1 s2 s3:Value} {x:VW} (h:OfMid W5 F s d f l xs w j s1 s2 s3) (hs:F + 1 + 1 ≤ w.heap.size) (hk:knumber f.kind = false) (h17:f.kind ≠ 17) (hx:x.run = false)
  (ht:∀ y ∈ xs,Thin y) (hl:vsum xs ≤ 1099511627776) {t:List UInt8} (htx:vbytes l x = t) :
  ∃ a5 n5 c5 w7,(Builtin.append_ #[58,58] 58 #[s2,.slice (some ⟨w.heap.size,0,none⟩) 1 1]).run Tryz.prog (w.alloc (.cells #[.string ⟨t.toArray⟩] 9)) = .ok (.slice a5 n5 c5) w7 ∧ Blk w7 (F + 1) [.int .i64 f.number,s1,s2,s3] 93 ∧
   OfSt W5 F s d f l (xs ++ [x]) (w7.setCell ⟨F + 1,2,none⟩ (.slice a5 n5 c5)) j s1 (.slice a5 n5 c5) s3:=by
 obtain ⟨-,-,-,ho⟩:=h.2.2.2.2 hk h17
 have hb:=texts_bound (f:=f) (l:=l) ht
 have hll:(if f.rep = true then (counts f xs).flatMap (pieceB f l) else []).length + 1 ≤ 1099511627777:=by
  split
  ·
   omega
  ·
   simp
 subst htx
 obtain ⟨v',w7,hr,hO,hg⟩:=ho.one (vbytes l x) hll hs
 obtain ⟨a5,c5,rfl⟩:=hO.form
 obtain ⟨g1,g2⟩:=box_push h.1 hs h.2.1 ho hg
 exact ⟨a5,_,c5,w7,hr,g2,OfMid.text h hk h17 hx g1 g2 hO⟩
theorem OfMid.join_push {W5:World} {F:Nat} {s:List Mes} {d:Nat} {f:Fld} {l:List UInt8} {xs:List VW} {w:World} {j s1 s2 s3 v6:Value} {x:VW} (h:OfMid W5 F s d f l xs w j s1 s2 s3) (hs:F + 1 + 1 ≤ w.heap.size) (h17:f.kind = 17) (hr:f.rep = false)
  (ht:∀ y ∈ xs,Thin y) (hl:vsum xs ≤ 1099511627776) (hb6:Bytes w v6 (vbytes l x)) (hl6:(vbytes l x).length ≤ 1099511627776) :
  ∃ a5 n5 c5 w7,(Builtin.append_ #[24,24] 24 #[j,v6]).run Tryz.prog w = .ok (.slice a5 n5 c5) w7 ∧
   OfSt W5 F s d f l (xs ++ [x]) w7 (.slice a5 n5 c5) s1 s2 s3:=by
 obtain ⟨-,-,-,g⟩:=h.2.2.2.1 h17
 obtain ⟨-,ho⟩:=g hr
 have hb:=join_bound (l:=l) ht
 obtain ⟨v',w7,hrn,hO,hg,-⟩:=own_append ho hb6 (by omega) hs
 obtain ⟨a5,c5,rfl⟩:=own_form hO
 obtain ⟨g1,g2⟩:=box_push h.1 hs h.2.1 ho hg
 exact ⟨a5,_,c5,w7,hrn,OfMid.join h h17 hr g1 g2 hO⟩
theorem OfMid.sub_push {W5:World} {F:Nat} {s:List Mes} {d:Nat} {f:Fld} {l:List UInt8} {xs:List VW} {w w1:World} {j s1 s2:Value} {a3:Option Addr} {n3 c3:Nat} {x:VW} (h:OfMid W5 F s d f l xs w j s1 s2 (.slice a3 n3 c3)) (hs:F + 1 + 1 ≤ w.heap.size) (h17:f.kind = 17) (hr:f.rep = true)
  (ht:∀ y ∈ xs,Thin y) (hl:vsum xs ≤ 1099511627776) (hb:Below w.heap.size w w1) {u1 u2:Value} (h1:u1.oneCell' = true) (h2:u2.oneCell' = true) {y:M d} (hy:tsub s d f.of (vbytes l x) = [y]) (hap:Apart 0 w.heap.size w1 fun w' => MsgAt d w' (.agg #[u1,u2]) y) :
  ∃ a5 c5 w5,(Builtin.append_ #[91,91] 91 #[.slice a3 n3 c3,.slice (some ⟨w1.heap.size,0,none⟩) 1 1]).run Tryz.prog (w1.alloc (.cells #[u1,u2] 78)) = .ok (.slice a5 (n3 + 1) c5) w5 ∧
   Below (F + 1 + 1) w (w1.alloc (.cells #[u1,u2] 78)) ∧ Below (F + 1 + 1) w w5 ∧
   OfSt W5 F s d f l (xs ++ [x]) (w5.setCell ⟨F + 1,3,none⟩ (.slice a5 (n3 + 1) c5)) j s1 s2 (.slice a5 (n3 + 1) c5):=by
 obtain ⟨-,-,g,-⟩:=h.2.2.2.1 h17
 obtain ⟨-,ho⟩:=g hr
 have hbd:=subs_bound (s:=s) (d:=d) (o:=f.of) (l:=l) ht
 obtain ⟨a',c',he⟩:=ho.form
 have hn3:(xs.flatMap fun x => tsub s d f.of (vbytes l x)).length = n3:=by cases he;rfl
 obtain ⟨a5,c5,w5,hr5,hO5,hB4,hB5⟩:=RowsOwn.step ho hb (by decide) (Nat.zero_le _) hs hn3 91 _ 48 Tryz.underlying91 info_rmsg rfl #[u1,u2] rfl (by intro u hu;simp at hu;rcases hu with rfl | rfl <;> assumption) y hap (by omega) (by decide)
 refine ⟨a5,c5,w5,hr5,hB4,hB5,OfMid.sub h h17 hr (h.1.trans (hB5.mono (by omega))) ((hB5.block (F + 1) (by omega)).trans h.2.1) ?_⟩
 rw [hy];exact hO5
def SubCall (w0:World) (sv:Value) (s:List Mes) (d:Nat) (f:Fld):Prop:=∀ (W:World) (v:Value) (b:List UInt8),Below w0.heap.size w0 W → Bytes W v b → b.length ≤ 1099511627776 → SubOk s d f.of b →
  Calls Tryz.prog 23 #[sv,.int .i64 f.of,v] W fun e w' => ∃ v' y,tsub s d f.of b = [y] ∧ e = .returned v' ∧ Below W.heap.size W w' ∧ Apart 0 W.heap.size w' fun w2 => MsgAt d w2 v' y
theorem SubCall.at {w0:World} {sv:Value} {s:List Mes} {d:Nat} {f:Fld} (h:SubCall w0 sv s d f) {W:World} {v:Value} {b:List UInt8} (h1:Below w0.heap.size w0 W) (h2:Bytes W v b) (h3:b.length ≤ 1099511627776) (h4:SubOk s d f.of b) {o:Int} (ho:o = f.of) :
  Hid (Calls Tryz.prog 23 #[sv,.int .i64 o,v] W fun e w' => ∃ u1 u2 y,(u1.oneCell' = true ∧ u2.oneCell' = true) ∧ tsub s d f.of b = [y] ∧ e = .returned (.agg #[u1,u2]) ∧ Below W.heap.size W w' ∧ Apart 0 W.heap.size w' fun w2 => MsgAt d w2 (.agg #[u1,u2]) y):=by
 subst ho
 refine (h W v b h1 h2 h3 h4).mono ?_
 rintro e w' ⟨v',y,g1,rfl,g2,g3⟩
 obtain ⟨a1,n1,c1,a2,n2,c2,rfl⟩:=g3.here.form
 exact ⟨_,_,y,⟨rfl,rfl⟩,g1,rfl,g2,g3⟩
theorem sub_call {w0:World} {sv:Value} {s:List Mes} (hs:sright s = true) {d:Nat} (hrec:∀ d',d = d' + 1 → ROfOk w0 sv s d') {m q:Nat} (hm:m < s.length) (hq:q < (s.getD m .zero).fields.length):SubCall w0 sv s d ((s.getD m .zero).fields.getD q .zero):=by
 rintro W v b hB hb hl ⟨d',rfl,hv⟩
 have hr:=of_range hs hm hq
 obtain ⟨f,hf⟩:∃ f,f = (s.getD m .zero).fields.getD q .zero:=⟨_,rfl⟩
 rw [← hf] at hr hv ⊢
 obtain ⟨o,ho⟩:∃ o:Nat,f.of = o:=⟨f.of.toNat,by omega⟩
 rw [ho,Int.toNat_natCast] at hv
 rw [ho]
 exact (hrec d' rfl o W v b (by omega) hB hb hl hv).mono fun e w' ⟨v',h1,h2,h3⟩ => ⟨v',_,rfl,h1,h2,h3⟩
theorem sub_call' {w0:World} {sv:Value} {s:List Mes} (hs:sright s = true) {d:Nat} (hrec:∀ d',d = d' + 1 → ROfOk w0 sv s d') {m q:Nat} (hm:m < s.length) {fs:List Fld} (hfs:fs = (s.getD m .zero).fields) (hq:q < fs.length) {f:Fld} (hf:f = fs.getD q .zero):Hid (SubCall w0 sv s d f):=by
 subst hf;subst hfs;exact sub_call hs hrec hm hq
theorem field_recs' {s:List Mes} (hs:sright s = true) {d m:Nat} {l:List UInt8} (hm:m < s.length) (h:(vmsg s d m l).2 = 0) {fs:List Fld} (hfs:fs = (s.getD m .zero).fields) {q:Nat} (hq:q < fs.length) {f:Fld} (hf:f = fs.getD q .zero) {all:List VW} (ha:all = (vall fs l).1) :
  Hid (FieldRecs (SubOk s d) f l (viewsOf all (q:Int))):=by
 subst ha;subst hf;subst hfs;exact field_recs hs hm h hq
theorem OfSt.done1 {W5:World} {F:Nat} {s:List Mes} {d:Nat} {f:Fld} {l:List UInt8} {xs:List VW} {w w1:World} {j s1 s2 s3 u1 u2:Value} {y:M d} (h:OfSt W5 F s d f l xs w j s1 s2 s3) (h17:f.kind = 17) (hr:f.rep = false) (hx:xs ≠ []) (hrun:∀ x ∈ xs,x.run = false)
  (hn:-9223372036854775808 ≤ f.number ∧ f.number ≤ 9223372036854775807) (hs:F + 1 + 1 ≤ w.heap.size) (hb:Below w.heap.size w w1) (hy:tsub s d f.of (xs.flatMap (vbytes l)) = [y]) (hap:Apart 0 w.heap.size w1 fun w2 => MsgAt d w2 (.agg #[u1,u2]) y) :
  ∀ W6,W6 = (w1.setCell ⟨F + 1,3,none⟩ (.slice (some ⟨w1.heap.size,0,none⟩) 1 1)).alloc (.cells #[u1,u2] 78) → Below (F + 1) W5 W6 ∧ Blk W6 (F + 1) [.int .i64 f.number,s1,s2,.slice (some ⟨w1.heap.size,0,none⟩) 1 1] 93 ∧
   Apart 0 (F + 1 + 1) W6 fun w2 => ValP' d w2 [.int .i64 f.number,noneS,noneS,.slice (some ⟨w1.heap.size,0,none⟩) 1 1] (fieldV (tsub s d) f l xs):=by
 rintro W6 rfl
 have hz:=hb.size
 have hS:Below (F + 1) W5 (w1.setCell ⟨F + 1,3,none⟩ (.slice (some ⟨w1.heap.size,0,none⟩) 1 1)):=(h.1.trans (hb.mono (by omega))).setCell (by show F + 1 ≤ F + 1;omega) _
 have hsz:(w1.setCell ⟨F + 1,3,none⟩ (.slice (some ⟨w1.heap.size,0,none⟩) 1 1)).heap.size = w1.heap.size:=by simp
 refine ⟨hS.alloc (by rw [hsz];omega) _,(by simpa using ((h.2.1.below hb).set 3 (.slice (some ⟨w1.heap.size,0,none⟩) 1 1)).alloc (.cells #[u1,u2] 78)),?_⟩
 refine OfInv.done1 h17 hr hx hrun hn hy (by omega) (Blk.new' _ [u1,u2] 78 _ hsz.symm) fun w2 hw2 => hap w2 fun b hlt hc => ?_
 have hc':F + 1 + 1 ≤ b:=by omega
 refine (hw2 b (by simp;omega) (.inr hc')).trans ?_
 rw [Below.heap_alloc _ _ b (by rw [hsz];exact hlt),Below.heap_setCell _ _ _ b (by show b ≠ F + 1;omega)]
theorem val_many {d:Nat} {w:World} {num:Int} {a1 a2 a3:Option Addr} {n1 n2 n3 c1 c2 c3:Nat} {x:Val (M d)} (h:ValP' d w [.int .i64 num,.slice a1 n1 c1,.slice a2 n2 c2,.slice a3 n3 c3] x):n1 + n2 + n3 = many x ∧ n1 ≤ 140737488355328 ∧ n2 ≤ 140737488355328 ∧ n3 ≤ 140737488355328:=by
 obtain ⟨wv,tv,sv,he,-,hW,hT,hS⟩:=h
 obtain ⟨h1,_,_,e1,-⟩:=hW.open
 obtain ⟨h2,_,_,e2,-⟩:=hT.open
 obtain ⟨h3,_,_,e3,-⟩:=hS.open
 subst e1;subst e2;subst e3
 simp at he
 obtain ⟨-,⟨-,e1,-⟩,⟨-,e2,-⟩,-,e3,-⟩:=he
 unfold many
 omega
end Go.Proofs.YtphkmpnahnakaaaGreat
