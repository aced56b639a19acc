/- Parts of a proof: texts of the author, merged. No condition of their own. -/
import Derived.Test.YtfimpmennkfjcaaGreatDoorZ01
import Derived.Test.YtfimpmennkfjcaaGreatDoorZ04
import Derived.Test.YtfimpmennkfjcaaGreatDoorZ07
import Derived.Test.YtfimpmennkfjcaaGreatDoorZ08
import Derived.Test.YtfimpmennkfjcaaGreatDoorZ11
import Derived.Test.YtfimpmennkfjcaaGreatDoorZ13
import Derived.Test.YtfimpmennkfjcaaGreatDoorZ15
import Derived.Deep.RegionLaw
import Derived.Laws.IdiomStrings
import Derived.Laws.AppendOwn
namespace Go.Proofs.YtfimpmennkfjcaaGreatDoor
open Go.RowKit
def Apart (n0 base:Nat) (w:World) (P:World → Prop):Prop:=∀ w',(∀ b,b < w.heap.size → (b < n0 ∨ base ≤ b) → w'.heap[b]? = w.heap[b]?) → P w'
theorem Apart.here {n0 base:Nat} {w:World} {P:World → Prop} (h:Apart n0 base w P):P w:=h w fun _ _ _ => rfl
theorem Apart.later {n0 base:Nat} {w w2:World} {P:World → Prop} (h:Apart n0 base w P) (hb:Below w.heap.size w w2):Apart n0 base w2 P:=fun w' hw' => h w' fun b hlt hc => (hw' b (Nat.lt_of_lt_of_le hlt hb.size) hc).trans (hb.block b hlt)
theorem Apart.mono {n0 base base':Nat} {w:World} {P:World → Prop} (h:Apart n0 base w P) (hb:base' ≤ base):Apart n0 base' w P:=fun w' hw' => h w' fun b hlt hc => hw' b hlt (hc.imp id fun h => Nat.le_trans hb h)
def RowsOwn {α:Type} (P:World → List Value → α → Prop) (T:TypeId) (k n0 base:Nat) (w:World) (v:Value) (l:List α):Prop:=
 ∃ rows:List (List Value),rows.length = l.length ∧ (∀ r ∈ rows,r.length = k) ∧ w.ownsRow base T k v l.length rows.flatten ∧
  ∀ w',(∀ b,b < w.heap.size → v.ownBlock ≠ some b → (b < n0 ∨ base ≤ b) → w'.heap[b]? = w.heap[b]?) → ∀ (i:Nat) (r:List Value) (x:α),rows[i]? = some r → l[i]? = some x → P w' r x
theorem RowsOwn.nil {α:Type} (P:World → List Value → α → Prop) (T:TypeId) (k n0 base:Nat) (w:World):RowsOwn P T k n0 base w (.slice none 0 0) []:=
 ⟨[],rfl,by simp,World.ownsRow_nil _ _ _ _,fun _ _ i r x h => by simp at h⟩
theorem RowsOwn.later {α:Type} {P:World → List Value → α → Prop} {T:TypeId} {k n0 base:Nat} {w w2:World} {v:Value} {l:List α} (h:RowsOwn P T k n0 base w v l)
  (hw:∀ b,b < w.heap.size → (b < n0 ∨ base ≤ b) → w2.heap[b]? = w.heap[b]?) (hs:w.heap.size ≤ w2.heap.size):RowsOwn P T k n0 base w2 v l:=by
 obtain ⟨rows,h1,h2,h3,h4⟩:=h
 refine ⟨rows,h1,h2,row_keep h3 fun b cur hb he => hw b (Array.getElem?_eq_some_iff.1 he).1 (.inr hb),fun w' hw' => h4 w' fun b hlt hne hc => (hw' b (by omega) hne hc).trans (hw b hlt hc)⟩
theorem RowsOwn.below {α:Type} {P:World → List Value → α → Prop} {T:TypeId} {k n0 base:Nat} {w w2:World} {v:Value} {l:List α} (h:RowsOwn P T k n0 base w v l) (hb:Below w.heap.size w w2):RowsOwn P T k n0 base w2 v l:=
 h.later (fun b hlt _ => hb.block b hlt) hb.size
theorem RowsOwn.form {α:Type} {P:World → List Value → α → Prop} {T:TypeId} {k n0 base:Nat} {w:World} {v:Value} {l:List α} (h:RowsOwn P T k n0 base w v l):∃ a c,v = .slice a l.length c:=by
 obtain ⟨rows,-,-,h3,-⟩:=h
 rcases h3.2 with ⟨rfl,h0⟩ | ⟨g,cap,cur,rfl,_⟩
 ·
  exact ⟨none,0,by rw [h0]⟩
 ·
  exact ⟨_,_,rfl⟩
theorem RowsOwn.at {α:Type} {P:World → List Value → α → Prop} {T:TypeId} {k n0 base:Nat} {w:World} {v:Value} {l:List α} (h:RowsOwn P T k n0 base w v l) (hl:l.length ≤ 140737488355328) {w':World}
  (hw:∀ b,b < w.heap.size → (b < n0 ∨ base ≤ b) → w'.heap[b]? = w.heap[b]?):RowsAt P k w' v l:=by
 obtain ⟨rows,h1,h2,h3,h4⟩:=h
 exact ⟨rows,h1,h2,row_seg (row_keep h3 fun b cur hb he => hw b (Array.getElem?_eq_some_iff.1 he).1 (.inr hb)) hl,fun i r x hr hx => h4 w' (fun b hlt _ hc => hw b hlt hc) i r x hr hx⟩
theorem RowsOwn.append' {α:Type} {P:World → List Value → α → Prop} {T:TypeId} {k n0 base:Nat} {w:World} {v:Value} {l:List α} (h:RowsOwn P T k n0 base w v l) (hk:0 < k)
  {G:Program} (t:TypeId) (z:Value) (bytes:Nat) (ht:G.underlying t = some (.slice T)) (hinfo:(G.info? T).map (fun i => (i.zero,i.size,i.bytes)) = some (some z,k,bytes)) (hzs:z.cells.size = k)
  (cells:Array Value) (hr:cells.size = k) (h1:∀ u ∈ cells.toList,u.oneCell' = true) (x:α)
  (hP:∀ w',(∀ b,b < w.heap.size → v.ownBlock ≠ some b → (b < n0 ∨ base ≤ b) → w'.heap[b]? = w.heap[b]?) → P w' cells.toList x) (hlen:l.length ≤ 1099511627776) (hby:bytes ≤ 120) (hbase:base ≤ w.heap.size) :
  ∃ v' w',(Builtin.append_ #[t,t] t #[v,.slice (some ⟨w.heap.size,0,none⟩) 1 1]).run G (w.alloc (.cells cells T)) = .ok v' w' ∧ RowsOwn P T k n0 base w' v' (l ++ [x]) ∧
   (w.alloc (.cells cells T)).grownBy w' v.ownBlock ∧ (v'.ownBlock = v.ownBlock ∨ v'.ownBlock = some (w.alloc (.cells cells T)).heap.size):=by
 obtain ⟨rows,g1,g2,g3,g4⟩:=h
 have hseg:Seg (w.alloc (.cells cells T)) (.slice (some ⟨w.heap.size,0,none⟩) 1 1) k 1 cells.toList:=by
  refine ⟨by simp [hr],by omega,some ⟨w.heap.size,0,none⟩,1,rfl,Nat.le_refl _,by omega,by simp,fun j u hu => ⟨_,_,rfl,?_⟩⟩
  rw [Nat.zero_add,cell_of_row _ _ _ cells T (0,0) (heap_alloc_new w _)]
  simpa using hu
 have hb1:(l.length + 1) * bytes ≤ 140737488355328:=Nat.le_trans (Nat.mul_le_mul_left _ hby) (by omega)
 obtain ⟨v',w',hrun,hO,hg,hat⟩:=seg_append (P:=G) (w.alloc (.cells cells T)) base t t T z k bytes ht hinfo hzs hk v _ l.length 1 rows.flatten cells.toList
  (World.ownsRow.alloc g3 _) hseg h1 (by omega) hb1 (by simp;omega)
 refine ⟨v',w',hrun,⟨rows ++ [cells.toList],by simp [g1],?_,by simpa using hO,?_⟩,hg,hat⟩
 ·
  intro r hr'
  rcases List.mem_append.1 hr' with h | h
  ·
   exact g2 r h
  ·
   simp at h;subst h;simpa using hr
 ·
  intro w2 hw2
  have hsz:w.heap.size + 1 ≤ w'.heap.size:=by have:=hg.size;simpa using this
  have hold:∀ b,b < w.heap.size → v.ownBlock ≠ some b → (b < n0 ∨ base ≤ b) → w2.heap[b]? = w.heap[b]?:=by
   intro b hlt hne hc
   have hne':v'.ownBlock ≠ some b:=by
    rcases hat with e | e
    ·
     rw [e];exact hne
    ·
     rw [e];intro e2;simp at e2;omega
   exact ((hw2 b (by omega) hne' hc).trans (hg.block b (by simp;omega) (fun e => hne e.symm))).trans (Below.heap_alloc w _ b hlt)
  intro i r y hri hyi
  by_cases hil:i < l.length
  ·
   rw [List.getElem?_append_left (by omega)] at hri
   rw [List.getElem?_append_left hil] at hyi
   exact g4 w2 hold i r y hri hyi
  ·
   have hi:i = l.length:=by
    have:=(List.getElem?_eq_some_iff.1 hyi).1
    simp at this;omega
   subst hi
   rw [← g1,List.getElem?_concat_length] at hri
   rw [List.getElem?_concat_length] at hyi
   cases hri
   cases hyi
   exact hP w2 hold
theorem RowsOwn.append {α:Type} {P:World → List Value → α → Prop} {T:TypeId} {k n0 base:Nat} {w:World} {v:Value} {l:List α} (h:RowsOwn P T k n0 base w v l) (hk:0 < k) (hn0:n0 ≤ base)
  {G:Program} (t:TypeId) (z:Value) (bytes:Nat) (ht:G.underlying t = some (.slice T)) (hinfo:(G.info? T).map (fun i => (i.zero,i.size,i.bytes)) = some (some z,k,bytes)) (hzs:z.cells.size = k)
  (cells:Array Value) (hr:cells.size = k) (h1:∀ u ∈ cells.toList,u.oneCell' = true) (x:α) (nb:Nat) (hnb:∀ b,v.ownBlock = some b → b < nb) (hbn:base ≤ nb)
  (hP:Apart n0 nb w fun w' => P w' cells.toList x) (hlen:l.length ≤ 1099511627776) (hby:bytes ≤ 120) (hbase:base ≤ w.heap.size) :
  ∃ v' w',(Builtin.append_ #[t,t] t #[v,.slice (some ⟨w.heap.size,0,none⟩) 1 1]).run G (w.alloc (.cells cells T)) = .ok v' w' ∧ RowsOwn P T k n0 base w' v' (l ++ [x]) ∧
   (w.alloc (.cells cells T)).grownBy w' v.ownBlock ∧ (v'.ownBlock = v.ownBlock ∨ v'.ownBlock = some (w.alloc (.cells cells T)).heap.size):=by
 have g3:=h
 obtain ⟨rows,-,-,g3,-⟩:=g3
 refine h.append' hk t z bytes ht hinfo hzs cells hr h1 x (fun w2 hold => hP w2 fun b hlt hc => hold b hlt ?_ (hc.imp id fun h => Nat.le_trans hbn h)) hlen hby hbase
 intro e
 have:=hnb b e
 rcases hc with hc | hc
 ·
  have hb2:base ≤ b:=by
   rcases g3.2 with ⟨rfl,_⟩ | ⟨g,cap,cur,rfl,hb,_⟩
   ·
    simp [Value.ownBlock] at e
   ·
    simp [Value.ownBlock] at e;omega
  omega
 ·
  omega
theorem RowsOwn.own {α:Type} {P:World → List Value → α → Prop} {T:TypeId} {k n0 base:Nat} {w:World} {v:Value} {l:List α} (h:RowsOwn P T k n0 base w v l) (b:Nat) (e:v.ownBlock = some b):base ≤ b ∧ b < w.heap.size:=by
 obtain ⟨rows,-,-,h3,-⟩:=h
 rcases h3.2 with ⟨rfl,h0⟩ | ⟨g,cap,cur,rfl,hb,hg,_⟩
 ·
  simp [Value.ownBlock] at e
 ·
  simp [Value.ownBlock] at e
  subst e
  exact ⟨hb,(Array.getElem?_eq_some_iff.1 hg).1⟩
theorem RowsOwn.step {α:Type} {P:World → List Value → α → Prop} {T:TypeId} {k n0 base i:Nat} {wr w1:World} {oa:Option Addr} {oc:Nat} {l:List α} (h:RowsOwn P T k n0 base wr (.slice oa i oc) l) (hb:Below wr.heap.size wr w1) (hk:0 < k) (hn0:n0 ≤ base) (hbs:base ≤ wr.heap.size) (hil:l.length = i)
  {G:Program} (t:TypeId) (z:Value) (bytes:Nat) (ht:G.underlying t = some (.slice T)) (hinfo:(G.info? T).map (fun i => (i.zero,i.size,i.bytes)) = some (some z,k,bytes)) (hzs:z.cells.size = k)
  (cells:Array Value) (hr:cells.size = k) (h1:∀ u ∈ cells.toList,u.oneCell' = true) (x:α) (hP:Apart n0 wr.heap.size w1 fun w' => P w' cells.toList x) (hlen:i ≤ 1099511627776) (hby:bytes ≤ 120) :
  ∃ a' c' w5,(Builtin.append_ #[t,t] t #[.slice oa i oc,.slice (some ⟨w1.heap.size,0,none⟩) 1 1]).run G (w1.alloc (.cells cells T)) = .ok (.slice a' (i + 1) c') w5 ∧ RowsOwn P T k n0 base w5 (.slice a' (i + 1) c') (l ++ [x]) ∧
   Below base wr (w1.alloc (.cells cells T)) ∧ Below base wr w5:=by
 have hs:=hb.size
 have hB1:Below base wr (w1.alloc (.cells cells T)):=(hb.mono hbs).alloc (by omega) _
 obtain ⟨v',w',hrun,hO,hg,-⟩:=(h.below hb).append hk hn0 t z bytes ht hinfo hzs cells hr h1 x wr.heap.size (fun b e => (h.own b e).2) hbs hP (by omega) hby (by omega)
 obtain ⟨a',c',rfl⟩:=hO.form
 rw [List.length_append,List.length_singleton,hil] at *
 exact ⟨a',c',w',hrun,hO,hB1,hB1.grown hg (by have:=hB1.size;omega) fun q e => (h.own q e).1⟩
end Go.Proofs.YtfimpmennkfjcaaGreatDoor
namespace Go.Proofs.YtfimpmennkfjcaaGreatDoor
open Go.RowKit Go.Shelf
def SubP (d:Nat) (w:World) (r:List Value) (x:M d):Prop:=MsgAt d w (.agg r.toArray) x
def ValP' (d:Nat) (w:World) (r:List Value) (x:Val (M d)):Prop:=ValAt (MsgAt d) w (.agg r.toArray) x
theorem info_rmsg:(Tryz.prog.info? 45).map (fun i => (i.zero,i.size,i.bytes)) = some (some (.agg #[.slice none 0 0,.slice none 0 0]),2,48):=by kernel_rfl
theorem info_rval:(Tryz.prog.info? 91).map (fun i => (i.zero,i.size,i.bytes)) = some (some (.agg #[.int .i64 0,.slice none 0 0,.slice none 0 0,.slice none 0 0]),4,80):=by kernel_rfl
theorem keep_apart {n base:Nat} {w0 w' w2:World} (hn:n = w0.heap.size) (hb:Below n w0 w') (h:∀ b,b < w'.heap.size → (b < n ∨ base ≤ b) → w2.heap[b]? = w'.heap[b]?):∀ p u,w0.cell? p = some u → w2.cell? p = some u:=by
 intro p u hu
 have hp:p.block < w0.heap.size:=World.block_lt_of_cell? w0 p hu
 have h1:=hb.size
 rw [World.cell?_of_block (h p.block (by omega) (.inl (by omega))),World.cell?_of_block (hb.block p.block (by omega))]
 exact hu
theorem news3 (w:World) (c1 c2 c3:List Value) (T1 T2 T3:TypeId) :
  Blk (((w.alloc (.cells c1.toArray T1)).alloc (.cells c2.toArray T2)).alloc (.cells c3.toArray T3)) w.heap.size c1 T1 ∧
  Blk (((w.alloc (.cells c1.toArray T1)).alloc (.cells c2.toArray T2)).alloc (.cells c3.toArray T3)) (w.heap.size + 1) c2 T2 ∧
  Blk (((w.alloc (.cells c1.toArray T1)).alloc (.cells c2.toArray T2)).alloc (.cells c3.toArray T3)) (w.heap.size + 1 + 1) c3 T3 ∧
  (((w.alloc (.cells c1.toArray T1)).alloc (.cells c2.toArray T2)).alloc (.cells c3.toArray T3)).heap.size = w.heap.size + 1 + 1 + 1 ∧
  Below w.heap.size w (((w.alloc (.cells c1.toArray T1)).alloc (.cells c2.toArray T2)).alloc (.cells c3.toArray T3)):=by
 have e:∀ (w:World) (o:Obj),(w.alloc o).heap.size = w.heap.size + 1:=fun w o => by simp
 refine ⟨((Blk.new w c1 T1).alloc _).alloc _,?_,?_,by rw [e,e,e],(((Below.refl _ _).alloc (Nat.le_refl _) _).alloc (by rw [e];omega) _).alloc (by rw [e,e];omega) _⟩
 ·
  have:=(Blk.new (w.alloc (.cells c1.toArray T1)) c2 T2).alloc (.cells c3.toArray T3)
  rw [e] at this
  exact this
 ·
  have:=Blk.new ((w.alloc (.cells c1.toArray T1)).alloc (.cells c2.toArray T2)) c3 T3
  rw [e,e] at this
  exact this
theorem MsgAt.form:∀ {d:Nat} {w:World} {v:Value} {x:M d},MsgAt d w v x → ∃ a1 n1 c1 a2 n2 c2,v = .agg #[.slice a1 n1 c1,.slice a2 n2 c2]
 | 0,_,_,_,h => h.elim
 | d + 1,_,_,_,h => by
  obtain ⟨vv,uv,rfl,hV,hU⟩:=h
  obtain ⟨-,va,vc,rfl,-,-⟩:=hV.open
  obtain ⟨-,ua,uc,rfl,-,-⟩:=hU.open
  exact ⟨_,_,_,_,_,_,rfl⟩
theorem mwt_pos:∀ {d:Nat} (x:M d),1 ≤ mwt d x
 | 0,x => x.elim
 | d + 1,x => by show 1 ≤ 1 + _ + _;omega
theorem sub_count {d':Nat}:∀ (l:List (M d')) (d:Nat),d = d' → l.length ≤ (l.map (mwt d')).sum
 | [],_,_ => by simp
 | x :: t,d,h => by
  have:=sub_count t d h
  have:=mwt_pos x
  rw [List.map_cons,List.sum_cons,List.length_cons]
  omega
end Go.Proofs.YtfimpmennkfjcaaGreatDoor
namespace Go.Proofs.YtfimpmennkfjcaaGreatDoor
open Go.RowKit Go.Shelf
theorem unk_len {d:Nat} (x:M (d + 1)) (h:mwt (d + 1) x ≤ 1099511627776):(M.unk x).length ≤ 1099511627776 ∧ (M.vals x).length ≤ 1099511627776:=by
 have h1:∀ l:List (List UInt8),l.length ≤ twt l:=fun l => by
  induction l with
  | nil => simp
  | cons t l ih => unfold twt at *;simp;omega
 have h2:∀ l:List (Val (M d)),l.length ≤ (l.map (vwt (mwt d))).sum:=fun l => by
  induction l with
  | nil => simp
  | cons t l ih =>
   have:1 ≤ vwt (mwt d) t:=by unfold vwt;omega
   simp;omega
 have h3:1 + twt (M.unk x) + ((M.vals x).map (vwt (mwt d))).sum ≤ 1099511627776:=h
 have:=h1 (M.unk x)
 have:=h2 (M.vals x)
 omega
end Go.Proofs.YtfimpmennkfjcaaGreatDoor
namespace Go.Proofs.YtfimpmennkfjcaaGreatDoor
open Go.RowKit
end Go.Proofs.YtfimpmennkfjcaaGreatDoor
namespace Go.Proofs.YtfimpmennkfjcaaGreatDoor
open Go.RowKit
theorem RowsOwn.step2 {α:Type} {P:World → List Value → α → Prop} {T:TypeId} {k n0 base i:Nat} {wr w1:World} {oa:Option Addr} {oc:Nat} {l:List α} (h:RowsOwn P T k n0 base wr (.slice oa i oc) l) (hb:Below wr.heap.size wr w1) (hk:0 < k) (hn0:n0 ≤ base) (hbs:base ≤ wr.heap.size) (hil:l.length = i)
  {G:Program} (t:TypeId) (z:Value) (bytes:Nat) (ht:G.underlying t = some (.slice T)) (hinfo:(G.info? T).map (fun i => (i.zero,i.size,i.bytes)) = some (some z,k,bytes)) (hzs:z.cells.size = k)
  (cells:Array Value) (hr:cells.size = k) (h1:∀ u ∈ cells.toList,u.oneCell' = true) (x:α) (hP:Apart n0 wr.heap.size w1 fun w' => P w' cells.toList x) (hlen:i ≤ 1099511627776) (hby:bytes ≤ 120) :
  ∃ a' c' w5,(Builtin.append_ #[t,t] t #[.slice oa i oc,.slice (some ⟨w1.heap.size,0,none⟩) 1 1]).run G (w1.alloc (.cells cells T)) = .ok (.slice a' (i + 1) c') w5 ∧ RowsOwn P T k n0 base w5 (.slice a' (i + 1) c') (l ++ [x]) ∧
   Below base wr (w1.alloc (.cells cells T)) ∧ Below base wr w5 ∧ ∀ b,wr.heap.size ≤ b → b < w1.heap.size → w5.heap[b]? = w1.heap[b]?:=by
 have hs:=hb.size
 have hB1:Below base wr (w1.alloc (.cells cells T)):=(hb.mono hbs).alloc (by omega) _
 obtain ⟨v',w',hrun,hO,hg,-⟩:=(h.below hb).append hk hn0 t z bytes ht hinfo hzs cells hr h1 x wr.heap.size (fun b e => (h.own b e).2) hbs hP (by omega) hby (by omega)
 obtain ⟨a',c',rfl⟩:=hO.form
 rw [List.length_append,List.length_singleton,hil] at *
 refine ⟨a',c',w',hrun,hO,hB1,hB1.grown hg (by have:=hB1.size;omega) fun q e => (h.own q e).1,fun b h1 h2 => ?_⟩
 refine (hg.block b (by simp;omega) (fun e => ?_)).trans (Below.heap_alloc w1 _ b h2)
 have:=(h.own b e.symm).2
 omega
def oneRec (l:List UInt8):Prop:=(rnext l 0).2 = 0 ∧ (rnext l 0).1.to = l.length
instance (l:List UInt8):Decidable (oneRec l):=by unfold oneRec;infer_instance
theorem rnext_ok {l:List UInt8} {i:Nat} (h:(rnext l i).2 = 0):i < l.length ∧ i < (rnext l i).1.to ∧ (rnext l i).1.to ≤ l.length:=by
 rcases rnext_cases l i with ⟨h1,h2⟩ | ⟨h1,c,-,h2,h3⟩ | ⟨h1,k,x,n,-,h2,h3,h4,h5,h6,h7,⟨a,m,c,-,g1,g2,g3,g4⟩ | ⟨a,m,-,g1,g2,g3,g4,g5⟩ | ⟨a,m,-,g1,g2,g3,g4⟩⟩
 ·
  rw [h2] at h;simp at h
 ·
  rw [h3] at h;simp at h;omega
 ·
  rw [g4] at h;simp at h;omega
 ·
  rw [g5] at h;simp at h
 ·
  rw [g4];exact ⟨h1,by simp;omega,by simp;omega⟩
end Go.Proofs.YtfimpmennkfjcaaGreatDoor
namespace Go.Proofs.YtfimpmennkfjcaaGreatDoor
open Go.RowKit
structure VW where
 r:Rec
 k:Int
 run:Bool
def VW.cells (x:VW):List Value:=viewL x.r x.k x.run
def vallGo (fs:List Fld) (l:List UInt8):Nat → Nat → List VW × Nat × Nat
 | 0,_ => ([],0,0)
 | n + 1,i =>
  if l.length ≤ i then ([],0,0) else
  if (vlook fs l i).2.2.2 ≠ 0 then ([],i,(vlook fs l i).2.2.2) else
  let x:=vallGo fs l n (vlook fs l i).1.to
  if x.2.2 ≠ 0 then ([],x.2.1,x.2.2) else (⟨(vlook fs l i).1,(vlook fs l i).2.1,(vlook fs l i).2.2.1⟩ :: x.1,0,0)
def vall (fs:List Fld) (l:List UInt8):List VW × Nat × Nat:=vallGo fs l l.length 0
def glueV (pre:List VW) (x:List VW × Nat × Nat):List VW × Nat × Nat:=if x.2.2 ≠ 0 then ([],x.2.1,x.2.2) else (pre ++ x.1,0,0)
theorem vallGo_form (fs:List Fld) (l:List UInt8):∀ n i,(vallGo fs l n i).2.2 ≠ 0 → (vallGo fs l n i).1 = []
 | 0,_,h => by simp [vallGo] at h
 | n + 1,i,h => by
  rw [vallGo] at h ⊢
  split
  ·
   rfl
  ·
   split
   ·
    rfl
   ·
    simp only
    split
    ·
     rfl
    ·
     rename_i h1 h2 h3
     rw [if_neg h1,if_neg h2] at h
     simp only at h
     rw [if_neg h3] at h
     exact absurd rfl h
theorem vallGo_place (fs:List Fld) (l:List UInt8):∀ n i,(vallGo fs l n i).2.2 = 0 → (vallGo fs l n i).2.1 = 0
 | 0,_,_ => rfl
 | n + 1,i,h => by
  rw [vallGo] at h ⊢
  split
  ·
   rfl
  ·
   split
   ·
    rename_i h1 h2
    rw [if_neg h1,if_pos h2] at h
    exact absurd h h2
   ·
    simp only
    split
    ·
     rename_i h1 h2 h3
     rw [if_neg h1,if_neg h2] at h
     simp only at h
     rw [if_pos h3] at h
     exact absurd h h3
    ·
     rfl
theorem glueV_nil (fs:List Fld) (l:List UInt8) (n i:Nat):glueV [] (vallGo fs l n i) = vallGo fs l n i:=by
 unfold glueV
 split
 ·
  rename_i h
  have:=vallGo_form fs l n i h
  rw [← this]
 ·
  rename_i h
  have h':(vallGo fs l n i).2.2 = 0:=by omega
  have:=vallGo_place fs l n i h'
  rw [List.nil_append]
  generalize vallGo fs l n i = x at *
  obtain ⟨a,b,c⟩:=x
  simp only at *
  subst h'
  subst this
  rfl
theorem vlook_ok {fs:List Fld} {l:List UInt8} {i:Nat} (h:(vlook fs l i).2.2.2 = 0):i < l.length ∧ i < (vlook fs l i).1.to ∧ (vlook fs l i).1.to ≤ l.length ∧ (rnext l i).2 = 0 ∧ (vlook fs l i).1 = (rnext l i).1:=by
 have hr:(rnext l i).2 = 0:=by
  refine Decidable.byContradiction fun hn => ?_
  unfold vlook at h
  rw [if_pos hn] at h
  exact hn h
 have hv:(vlook fs l i).1 = (rnext l i).1:=by
  unfold vlook at h ⊢
  rw [if_neg (by omega)] at h ⊢
  split
  ·
   rfl
  ·
   rename_i h1
   rw [if_neg h1] at h
   simp only at h ⊢
   split
   ·
    rfl
   ·
    rename_i h2
    rw [if_neg h2] at h
    split
    ·
     rename_i h3
     rw [if_pos h3] at h
     simp at h
    ·
     rfl
 have:=rnext_ok hr
 rw [hv]
 exact ⟨this.1,this.2.1,this.2.2,hr,rfl⟩
theorem glueV_step {fs:List Fld} {l:List UInt8} {n i:Nat} {pre:List VW} {r:Rec} {k:Int} {run:Bool} (hi:i < l.length) (h:vlook fs l i = (r,k,run,0)) :
  glueV pre (vallGo fs l (n + 1) i) = glueV (pre ++ [⟨r,k,run⟩]) (vallGo fs l n r.to):=by
 rw [vallGo,if_neg (by omega),h]
 simp only [ne_eq,not_true_eq_false,if_false]
 unfold glueV
 by_cases hx:(vallGo fs l n r.to).2.2 = 0
 ·
  simp [hx]
 ·
  simp [hx]
theorem glueV_bad {fs:List Fld} {l:List UInt8} {n i:Nat} {pre:List VW} {c:Nat} (hi:i < l.length) (h:(vlook fs l i).2.2.2 = c) (hc:c ≠ 0):glueV pre (vallGo fs l (n + 1) i) = ([],i,c):=by
 rw [vallGo,if_neg (by omega),if_pos (by rw [h];exact hc),h]
 unfold glueV
 simp [hc]
theorem glueV_end {fs:List Fld} {l:List UInt8} {n i:Nat} {pre:List VW} (hi:l.length ≤ i):glueV pre (vallGo fs l n i) = (pre,0,0):=by
 cases n with
 | zero => simp [vallGo,glueV]
 | succ n => rw [vallGo,if_pos hi];simp [glueV]
end Go.Proofs.YtfimpmennkfjcaaGreatDoor
namespace Go.Proofs.YtfimpmennkfjcaaGreatDoor
variable {T:Type} {R:T → T → Prop}
theorem srt_all_lt (ht:∀ x y z,R x y → R y z → R x z) {L Q:List T} (hL:L.Pairwise R) (hQ:Q.Pairwise R) (h:L = [] ∨ Q = [] ∨ ∃ x y,L.getLast? = some x ∧ Q.head? = some y ∧ R x y):∀ a ∈ L,∀ b ∈ Q,R a b:=by
 intro a ha b hb
 rcases h with rfl | rfl | ⟨x,y,hx,hy,hxy⟩
 ·
  cases ha
 ·
  cases hb
 ·
  have h1:a = x ∨ R a x:=by
   obtain ⟨L',rfl⟩:=List.getLast?_eq_some_iff.1 hx
   rcases List.mem_append.1 ha with h | h
   ·
    exact .inr ((List.pairwise_append.1 hL).2.2 a h x (by simp))
   ·
    exact .inl (by simpa using h)
  have h2:b = y ∨ R y b:=by
   obtain ⟨Q',rfl⟩:=List.head?_eq_some_iff.1 hy
   rcases List.mem_cons.1 hb with h | h
   ·
    exact .inl h
   ·
    exact .inr ((List.pairwise_cons.1 hQ).1 b h)
  rcases h1 with rfl | h1
  ·
   rcases h2 with rfl | h2
   ·
    exact hxy
   ·
    exact ht _ _ _ hxy h2
  ·
   rcases h2 with rfl | h2
   ·
    exact ht _ _ _ h1 hxy
   ·
    exact ht _ _ _ (ht _ _ _ h1 hxy) h2
theorem merge_join (ht:∀ x y z,R x y → R y z → R x z) {L1 L2 Q1 Q2 Z1 Z2:List T} (hL:(L1 ++ L2).Pairwise R) (hQ:(Q1 ++ Q2).Pairwise R)
  (h1:L1 = [] ∨ Q2 = [] ∨ ∃ x y,L1.getLast? = some x ∧ Q2.head? = some y ∧ R x y) (h2:Q1 = [] ∨ L2 = [] ∨ ∃ x y,Q1.getLast? = some x ∧ L2.head? = some y ∧ R x y)
  (hz1:Z1.Perm (L1 ++ Q1)) (s1:Z1.Pairwise R) (hz2:Z2.Perm (L2 ++ Q2)) (s2:Z2.Pairwise R):(Z1 ++ Z2).Pairwise R ∧ (Z1 ++ Z2).Perm ((L1 ++ L2) ++ (Q1 ++ Q2)):=by
 obtain ⟨hl1,hl2,hl⟩:=List.pairwise_append.1 hL
 obtain ⟨hq1,hq2,hq⟩:=List.pairwise_append.1 hQ
 have k1:=srt_all_lt ht hl1 hq2 h1
 have k2:=srt_all_lt ht hq1 hl2 h2
 constructor
 ·
  rw [List.pairwise_append]
  refine ⟨s1,s2,fun a ha b hb => ?_⟩
  rcases List.mem_append.1 (hz1.mem_iff.1 ha) with ha | ha <;> rcases List.mem_append.1 (hz2.mem_iff.1 hb) with hb | hb
  ·
   exact hl a ha b hb
  ·
   exact k1 a ha b hb
  ·
   exact k2 a ha b hb
  ·
   exact hq a ha b hb
 ·
  refine (hz1.append hz2).trans ?_
  have e:((L1 ++ Q1) ++ (L2 ++ Q2)).Perm (L1 ++ (L2 ++ (Q1 ++ Q2))):=by
   rw [List.append_assoc]
   refine List.Perm.append_left L1 ?_
   rw [← List.append_assoc,← List.append_assoc]
   exact List.Perm.append_right Q2 List.perm_append_comm
  rw [List.append_assoc L1 L2]
  exact e
theorem srt_insert (ht:∀ x y z,R x y → R y z → R x z) {Q:List T} {x:T} (hQ:Q.Pairwise R) (i:Nat) (h1:i = 0 ∨ ∃ y,Q[i - 1]? = some y ∧ R y x) (h2:Q.length ≤ i ∨ ∃ y,Q[i]? = some y ∧ R x y) :
  (Q.take i ++ x :: Q.drop i).Pairwise R:=by
 have hQ':=hQ
 rw [← List.take_append_drop i Q] at hQ'
 obtain ⟨q1,q2,q⟩:=List.pairwise_append.1 hQ'
 have k1:∀ a ∈ Q.take i,R a x:=by
  intro a ha
  refine srt_all_lt ht q1 (List.pairwise_singleton R x) ?_ a ha x (by simp)
  rcases h1 with rfl | ⟨y,hy,hyx⟩
  ·
   exact .inl rfl
  ·
   refine .inr (.inr ⟨y,x,?_,rfl,hyx⟩)
   have hl:i - 1 < Q.length:=(List.getElem?_eq_some_iff.1 hy).1
   by_cases hi:i = 0
   ·
    subst hi;simp at ha
   ·
    rw [List.getLast?_eq_getElem?,List.length_take,Nat.min_eq_left (by omega),List.getElem?_take,if_pos (by omega)]
    exact hy
 have k2:∀ a ∈ Q.drop i,R x a:=by
  intro a ha
  refine srt_all_lt ht (List.pairwise_singleton R x) q2 ?_ x (by simp) a ha
  rcases h2 with h2 | ⟨y,hy,hxy⟩
  ·
   exact .inr (.inl (List.drop_eq_nil_of_le h2))
  ·
   refine .inr (.inr ⟨x,y,rfl,?_,hxy⟩)
   rw [List.head?_drop];exact hy
 rw [List.pairwise_append,List.pairwise_cons]
 exact ⟨q1,⟨k2,q2⟩,fun a ha b hb => by
  rcases List.mem_cons.1 hb with rfl | hb
  ·
   exact k1 a ha
  ·
   exact q a ha b hb⟩
theorem perm_insert {Q:List T} (x:T) (i:Nat):(Q.take i ++ x :: Q.drop i).Perm (x :: Q):=by
 refine List.perm_middle.trans ?_
 rw [List.take_append_drop]
theorem srt_unique (ha:∀ x y,R x y → ¬ R y x) {l m:List T} (hl:l.Pairwise R) (hm:m.Pairwise R) (h:l.Perm m):l = m:=by
 induction l generalizing m with
 | nil => exact (List.Perm.nil_eq h)
 | cons x r ih =>
  cases m with
  | nil => exact absurd h.length_eq (by simp)
  | cons y s =>
   obtain ⟨hl1,hl2⟩:=List.pairwise_cons.1 hl
   obtain ⟨hm1,hm2⟩:=List.pairwise_cons.1 hm
   have e:x = y:=by
    have h1:x ∈ y :: s:=h.mem_iff.1 (by simp)
    have h2:y ∈ x :: r:=h.mem_iff.2 (by simp)
    rcases List.mem_cons.1 h1 with h1 | h1
    ·
     exact h1
    ·
     rcases List.mem_cons.1 h2 with h2 | h2
     ·
      exact h2.symm
     ·
      exact absurd (hm1 x h1) (ha _ _ (hl1 y h2))
   subst e
   rw [ih hl2 hm2 ((List.perm_cons x).1 h)]
end Go.Proofs.YtfimpmennkfjcaaGreatDoor
namespace Go.Proofs.YtfimpmennkfjcaaGreatDoor
def numAt (fs:List Fld) (i:Int):Int:=(fs.getD i.toNat .zero).number
def Ahead (fs:List Fld) (i j:Int):Prop:=numAt fs i < numAt fs j ∨ numAt fs i = numAt fs j ∧ i < j
theorem Ahead.trans {fs:List Fld} (x y z:Int) (h:Ahead fs x y) (h2:Ahead fs y z):Ahead fs x z:=by unfold Ahead at *;omega
theorem Ahead.asymm {fs:List Fld} (x y:Int) (h:Ahead fs x y):¬ Ahead fs y x:=by unfold Ahead at *;omega
def upTo (n:Nat):List Int:=(List.range n).map fun k:Nat => (k:Int)
theorem upTo_succ (n:Nat):upTo (n + 1) = upTo n ++ [(n:Int)]:=by unfold upTo;rw [List.range_succ,List.map_append];rfl
theorem upTo_len (n:Nat):(upTo n).length = n:=by simp [upTo]
theorem upTo_mem {n:Nat} {x:Int}:x ∈ upTo n ↔ 0 ≤ x ∧ x < n:=by
 unfold upTo
 rw [List.mem_map]
 constructor
 ·
  rintro ⟨k,hk,rfl⟩
  have:=List.mem_range.1 hk
  omega
 ·
  intro h
  exact ⟨x.toNat,List.mem_range.2 (by omega),by omega⟩
def posF (fs:List Fld) (i:Int) (o:List Int):Nat:=(o.takeWhile fun u => decide (numAt fs u ≤ numAt fs i)).length
def insF (fs:List Fld) (i:Int) (o:List Int):List Int:=o.take (posF fs i o) ++ i :: o.drop (posF fs i o)
def sortF (fs:List Fld):Nat → List Int
 | 0 => []
 | n + 1 => insF fs (n:Int) (sortF fs n)
def sortedF (fs:List Fld):List Int:=sortF fs fs.length
theorem posF_le (fs:List Fld) (i:Int) (o:List Int):posF fs i o ≤ o.length:=(List.takeWhile_prefix _).length_le
theorem posF_from (fs:List Fld) (i:Int) (o:List Int):(∀ k,k < posF fs i o → ∃ u,o[k]? = some u ∧ numAt fs u ≤ numAt fs i) ∧ (∀ u,o[posF fs i o]? = some u → numAt fs i < numAt fs u):=by
 unfold posF
 induction o with
 | nil => simp
 | cons u r ih =>
  rw [List.takeWhile_cons]
  by_cases h:numAt fs u ≤ numAt fs i
  ·
   simp only [decide_eq_true h,if_true,List.length_cons]
   refine ⟨fun k hk => ?_,fun v hv => ih.2 v (by simpa using hv)⟩
   cases k with
   | zero => exact ⟨u,rfl,h⟩
   | succ k => simpa using ih.1 k (by omega)
  ·
   simp only [decide_eq_false h,Bool.false_eq_true,if_false,List.length_nil]
   refine ⟨fun k hk => by omega,fun v hv => ?_⟩
   simp at hv
   subst hv
   omega
theorem sortF_ok (fs:List Fld):∀ n,(sortF fs n).Perm (upTo n) ∧ (sortF fs n).Pairwise (Ahead fs)
 | 0 => ⟨List.Perm.refl _,List.Pairwise.nil⟩
 | n + 1 => by
  obtain ⟨h1,h2⟩:=sortF_ok fs n
  obtain ⟨h3,h4⟩:=posF_from fs (n:Int) (sortF fs n)
  have hm:∀ u ∈ sortF fs n,u < (n:Int):=fun u hu => (upTo_mem.1 (h1.mem_iff.1 hu)).2
  rw [sortF,upTo_succ]
  refine ⟨?_,?_⟩
  ·
   exact (perm_insert _ _).trans ((List.Perm.cons _ h1).trans (List.perm_append_singleton _ _).symm)
  ·
   refine srt_insert Ahead.trans h2 _ ?_ ?_
   ·
    by_cases h0:posF fs n (sortF fs n) = 0
    ·
     exact .inl h0
    ·
     obtain ⟨u,hu,hle⟩:=h3 (posF fs n (sortF fs n) - 1) (by omega)
     refine .inr ⟨u,hu,?_⟩
     have:=hm u (List.mem_of_getElem? hu)
     unfold Ahead
     omega
   ·
    by_cases hl:(sortF fs n).length ≤ posF fs n (sortF fs n)
    ·
     exact .inl hl
    ·
     have hu:=List.getElem?_eq_getElem (l:=sortF fs n) (i:=posF fs n (sortF fs n)) (by omega)
     exact .inr ⟨_,hu,.inl (h4 _ hu)⟩
theorem sortF_len (fs:List Fld) (n:Nat):(sortF fs n).length = n:=by rw [(sortF_ok fs n).1.length_eq,upTo_len]
theorem sortedF_len (fs:List Fld):(sortedF fs).length = fs.length:=sortF_len fs _
theorem sortedF_mem {fs:List Fld} {x:Int} (h:x ∈ sortedF fs):0 ≤ x ∧ x < fs.length:=upTo_mem.1 ((sortF_ok fs _).1.mem_iff.1 h)
theorem sortedF_unique {fs:List Fld} {Z:List Int} (h:Z.Perm (upTo fs.length)) (hs:Z.Pairwise (Ahead fs)):Z = sortedF fs:=
 srt_unique Ahead.asymm hs (sortF_ok fs _).2 (h.trans (sortF_ok fs _).1.symm)
theorem upTo_sorted (_fs:List Fld) (n:Nat):(upTo n).Pairwise fun i j => i < j:=by
 induction n with
 | zero => exact List.Pairwise.nil
 | succ n ih =>
  rw [upTo_succ,List.pairwise_append]
  refine ⟨ih,List.pairwise_singleton _ _,fun a ha b hb => ?_⟩
  have:=upTo_mem.1 ha
  simp at hb
  omega
end Go.Proofs.YtfimpmennkfjcaaGreatDoor
