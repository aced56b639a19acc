/- Parts of a proof: texts of the author, merged. No condition of their own. -/
import Derived.Test.YtpckoeicbjfnhaaGreatDoorY07
import Derived.Test.YtpckoeicbjfnhaaGreatDoorY09
import Derived.Test.YtpckoeicbjfnhaaGreatDoorY13
import Derived.Test.YtpckoeicbjfnhaaGreatDoorY14
import Derived.Test.YtpckoeicbjfnhaaGreatDoorY16
import Derived.Test.YtpckoeicbjfnhaaGreatDoorY17
import Derived.Lib.AppendZerosOnto
namespace Go.Proofs.YtpckoeicbjfnhaaGreatDoor
set_option maxRecDepth 100000
set_option maxHeartbeats 16000000
section
open Go.RowKit Go.Shelf
abbrev zaA:Value:=.slice none 0 0
theorem zdT {w:World}{base:Nat}{v:Value}{l:List UInt8}(h:Own w base v l):∃ a c,v= .slice a l.length c:=by
 rcases h.2 with ⟨h1,h2⟩|⟨g,cap,cur,hv,-⟩
 ·
  exact⟨none,0,by rw[h1,h2]⟩
 ·
  exact⟨_,_,hv⟩
theorem zh2 (k:Int)(l:List UInt8):(zdd k l).1<2 ^ 64:=by
 unfold zdd
 split
 ·
  refine zdv k ?_
  split
  ·
   rcases zcN l with ⟨x,n,e,-,-,-,hx⟩|⟨c,e,-⟩
   ·
    rw[e];exact hx
   ·
    rw[e];show 0<_;decide
  ·
   exact zqR l
 ·
  show 0<_;decide
theorem zed {f:Fld}{l:List UInt8}{x:VW}{y:Nat}(h:y∈zam f l x):y<2 ^ 64:=by
 unfold zam at h
 split at h
 ·
  unfold zce at h
  split at h
  ·
   unfold ziu at h
   obtain⟨z,-,rfl⟩:=List.mem_map.1 h
   exact zh2 _ _
  ·
   simp at h
 ·
  split at h
  ·
   simp at h;subst h;exact zh2 _ _
  ·
   simp at h
theorem zf6 {f:Fld}{l:List UInt8}{xs:List VW}(ht:∀ x∈xs,zd5 x):((counts f xs).flatMap (zam f l)).length≤zbt xs:=by
 have hc:=zj3 f xs
 have:=zft (zam f l) List.length rfl (fun a b=>List.length_append) (counts f xs) fun x hx=>zdA (ht x (zcr f xs hx))
 omega
theorem zoB (s:List Mes)(d:Nat)(o:Int)(b:List UInt8):(zdz s d o b).length≤1:=by cases d <;> simp[zdz]
theorem zlc (fs:List Fld)(l:List UInt8):∀ x∈(zbA fs l).1,zd5 x:=(zh0 fs l l.length 0 (Nat.zero_le _)).2
theorem zgy (fs:List Fld)(l:List UInt8):zbt (zbA fs l).1≤l.length:=by have:=(zh0 fs l l.length 0 (Nat.zero_le _)).1;unfold zbA;omega
theorem zex (p:VW→Bool):∀ (xs:List VW),zbt (xs.filter p)≤zbt xs
 | []=>by simp[zbt]
 | x::r=>by
  have:=zex p r
  rw[List.filter_cons]
  unfold zbt at *
  split
  ·
   rw[List.map_cons,List.sum_cons,List.map_cons,List.sum_cons];omega
  ·
   rw[List.map_cons,List.sum_cons];omega
theorem zg8 (fs:List Fld)(l:List UInt8)(k:Nat)(q:Int):(∀ x∈zak ((zbA fs l).1.take k) q,zd5 x)∧zbt (zak ((zbA fs l).1.take k) q)≤l.length:=by
 refine⟨fun x hx=>zlc fs l x (List.mem_of_mem_take (zbS hx).1),?_⟩
 have h1:=zex (fun x=>decide (x.k=q)) ((zbA fs l).1.take k)
 have h2:=zgy fs l
 have h3:zbt ((zbA fs l).1.take k)≤zbt (zbA fs l).1:=by
  conv=>rhs;rw[←List.take_append_drop k (zbA fs l).1,zh1]
  omega
 unfold zak
 omega
end
section
open Go.RowKit
theorem znw (w:World)(n:Nat)(h0:0<n)(hn:n≤2199023255552)(ty:TypeId) :
  ∃ G,n≤G∧G≤9223372036854775807∧(Builtin.append_ #[47,3] ty #[.slice none 0 0,.int .i64 (n:Int)]).run Tryz.prog w= .ok (.slice (some ⟨w.heap.size,0,none⟩) n G) (w.drew.alloc (.cells (Builtin.zeroCells #[.int .u8 0] n++Builtin.zeroCells #[.int .u8 0] (G - n)) 5))∧G≤maxLen:=by
 obtain⟨i,hi,hz,hsize,hby⟩:=info_parts zqE
 have h:=Lib.run_append_grow_zeros w 47 3 ty 5 i (.int .u8 0) .i64 .i64 zaG Tryz.underlying3 hi hz none 0 0 [] (run_firstCells_none w.drew i.size 0 0 0) n h0 (by omega) (by omega) (by omega) (by rw[hby];omega)
  (by rw[Nat.zero_add];exact growslice_fits (by omega) (by rw[hby];omega))
 rw[Nat.zero_add] at h
 have hm:=grownCap_le_maxLen w n 0 5 (by unfold maxLen;omega)
 refine⟨_,grownCap_ge w n 0 _,by have:=hm;unfold maxLen at this;omega,?_,hm⟩
 simp at h
 exact h
theorem zj4 (z:Value)(n:Nat):(Builtin.zeroCells #[z] n).size=n:=by
 have:=size_zeroCells #[z] n
 simpa using this
theorem zps (w:World)(n:Nat)(hn:n≤2199023255552) :
  Calls Tryz.prog 231 #[.slice none 0 0,.int .i64 (n:Int)] w fun e w'=>∃ v',e= .returned v'∧w'.ownsRow w.heap.size 5 1 v' 0 []∧Below w.heap.size w w':=by
 by_cases h0:0<n
 ·
  obtain⟨G,h1,h2,h3,h4⟩:=znw w n h0 hn 47
  have hcut:∀ W,(Instr.slice 47 (.slice (some ⟨w.heap.size,0,none⟩) n G) none (some (.int .i64 0)) none).run Tryz.prog W= .ok (.slice (some ⟨w.heap.size,0,none⟩) 0 G) W:=by
   intro W
   have:=zek (P:=Tryz.prog) zaG zda (some ⟨w.heap.size,0,none⟩) n G 0 (by omega) W
   rw[show ((0:Nat):Int)=0 from rfl] at this
   rw[this]
   unfold sliced
   by_cases hG:G=0
   ·
    omega
   ·
    rw[if_neg hG];rfl
  have hcut0:∀ W,(Instr.slice 47 (.slice none 0 0) none (some (.int .i64 0)) none).run Tryz.prog W= .ok (.slice none 0 0) W:=by
   intro W
   have:=zek (P:=Tryz.prog) zaG zda none 0 0 0 (by omega) W
   rw[show ((0:Nat):Int)=0 from rfl] at this
   rw[this];rfl
  have HOWN:Hid (World.ownsRow (w.drew.alloc (.cells (Builtin.zeroCells #[.int .u8 0] n++Builtin.zeroCells #[.int .u8 0] (G - n)) 5)) w.heap.size 5 1 (.slice (some ⟨w.heap.size,0,none⟩) 0 G) 0 []):=by
   refine⟨rfl,.inr ⟨w.heap.size,G,_,rfl,Nat.le_refl _,heap_alloc_new w.drew _,Nat.zero_le _,h4,?_,by simp⟩⟩
   rw[Array.size_append,zj4,zj4];omega
  clear h4
  go_enter Tryz.func231,Tryz.ntmps231
  go_wp2_with (at_builtin;refine zg3 rfl _ _ _ _ rfl _ _ rfl rfl h3 ?_)
  go_ret
  exact⟨_,rfl,HOWN.out,((Below.refl _ _).drew).alloc (Nat.le_refl _) _⟩
 ·
  obtain rfl:n=0:=by omega
  go_enter Tryz.func231,Tryz.ntmps231
  go_wp2_with fail
  go_ret
  exact⟨_,rfl,World.ownsRow_nil _ _ _ _,Below.refl _ _⟩
def zld (w:World)(v:Value)(bs:List (List UInt8)):Prop:=∃ vs:List Value,vs.length=bs.length∧Seg w v 1 bs.length vs∧∀ (i:Nat) (u:Value) (t:List UInt8),vs[i]?=some u→bs[i]?=some t→zal w u t
theorem zld.open {w:World}{v:Value}{bs:List (List UInt8)}(h:zld w v bs) :
  bs.length≤140737488355328∧∃ a cap,v= .slice a bs.length cap∧∀ i t,bs[i]?=some t→∃ b o u,a=some ⟨b,o,none⟩∧w.cell? ⟨b,o+i,none⟩=some u∧zal w u t:=by
 obtain⟨vs,h1,⟨h2,h3,a,cap,hv,h4,h5,h6,h7⟩,h8⟩:=h
 refine⟨h3,a,cap,hv,fun i t ht=>?_⟩
 have hi:i<vs.length:=by have:=(List.getElem?_eq_some_iff.1 ht).1;omega
 obtain⟨b,o,e,hc⟩:=h7 i _ (List.getElem?_eq_getElem hi)
 exact⟨b,o,_,e,hc,h8 i _ t (List.getElem?_eq_getElem hi) ht⟩
theorem zdB (bs:List (List UInt8))(i:Nat):(bs.take i).flatten.length≤bs.flatten.length:=by
 conv=>rhs;rw[←List.take_append_drop i bs,List.flatten_append,List.length_append]
 omega
theorem zpt (w:World):(sizeOf 47).run Tryz.prog w= .ok 1 w:=by kernel_rfl
theorem zmc:Tryz.prog.underlying 252=some (.slice 47):=Tryz.underlying252
theorem zmd {w:World}{v:Value}{bs:List (List UInt8)}(h:zld w v bs)(hl:bs.flatten.length≤1099511627776)(hn:bs.length≤1099511627776) :
  Calls Tryz.prog 210 #[v] w fun e w'=>∃ v',e= .returned v'∧Own w' w.heap.size v' bs.flatten∧Below w.heap.size w w':=by
 have H:=hid h
 obtain⟨-,a,cap,rfl,hat⟩:=h.open
 have HAT:=hid hat
 obtain⟨n,HN⟩:∃ n,Hid (n=bs.length):=⟨_,rfl⟩
 rw[←HN.out] at H hn ⊢
 have HL:=hid hl
 clear h hat
 go_enter Tryz.func210,Tryz.ntmps210
 go_wp2_with fail
 go_loopw [3,11] (fun v3 v11 wr=>∃ i:Nat,v11= .int .i64 (i:Int)∧v3= .int .i64 ((bs.take i).flatten.length:Nat)∧i≤n∧wr=w) (fun _ v11 _=>n - (intOf v11).toNat)
 case atStart=>exact⟨0,rfl,rfl,by omega,rfl⟩
 case round =>
  obtain⟨i,rfl,rfl,hi,rfl⟩:=hrel
  have hfl:=zdB bs i
  by_cases hlt:i<n
  ·
   obtain⟨t,ht⟩:∃ t,bs[i]?=some t:=⟨_,List.getElem?_eq_getElem (by rw[←HN.out];exact hlt)⟩
   obtain⟨b,o,u,rfl,hc,hb⟩:=HAT.out i t ht
   obtain⟨htl,ua,uc,rfl,-⟩:=hb.open
   have hst:(bs.take (i+1)).flatten.length=(bs.take i).flatten.length+t.length:=by
    rw[List.take_add_one,ht,List.flatten_append,List.length_append];simp
   have hfl2:=zdB bs (i+1)
   have HST:=hid hst
   obtain⟨z,HZ⟩:∃ z,Hid (z=(bs.take i).flatten.length):=⟨_,rfl⟩
   obtain⟨tn,HT⟩:∃ z,Hid (z=t.length):=⟨_,rfl⟩
   rw[hst] at hfl2
   rw[←HZ.out] at hfl hfl2 ⊢
   rw[←HT.out] at htl hc hfl2
   have hz:z+tn≤1099511627776:=by have:=HL.out;omega
   clear hst hb ht
   go_wp2_with fail
   go_roundw
   case rel=>exact⟨i+1,by go_num,by rw[HST.out,←HZ.out,←HT.out];go_num,hlt,by first|rfl|trivial⟩
   case measure=>simp[intOf];omega
  ·
   obtain rfl:i=n:=by omega
   have htk:(bs.take i).flatten.length=bs.flatten.length:=by rw[HN.out,List.take_length]
   obtain⟨z,HZ⟩:∃ z,Hid (z=bs.flatten.length):=⟨_,rfl⟩
   rw[htk,←HZ.out] at hfl ⊢
   have HG:=hid (zps wr z (by have:=HL.out;have:=HZ.out;omega))
   have HBB:=hid HAT.out
   clear hfl htk
   go_wp2_with (refine HG.out.mono ?_;rintro e w1 ⟨v3,rfl,hO,hB⟩;obtain⟨a3,n3,k3,rfl⟩:∃ a n c,v3= .slice a n c:=by (obtain⟨-,-,a,c,e,-⟩:=zbQ hO (by omega);exact⟨_,_,_,e⟩))
   have HO:=hid hO
   have HB:=hid hB
   clear hO hB
   go_loopw [6,27] (fun v6 v27 wx=>∃ (j:Nat) (a5:Option Addr) (n5 c5:Nat),v27= .int .i64 (j:Int)∧v6= .slice a5 n5 c5∧j≤i∧Hid (Own wx wr.heap.size (.slice a5 n5 c5) (bs.take j).flatten∧Below wr.heap.size wr wx)) (fun _ v27 _=>i - (intOf v27).toNat)
   case atStart=>exact⟨0,a3,n3,k3,rfl,rfl,by omega,HO.out,HB.out⟩
   case round =>
    obtain⟨j,a5,n5,c5,rfl,rfl,hj,HJ⟩:=hrel
    by_cases hlt:j<i
    ·
     obtain⟨t,ht⟩:∃ t,bs[j]?=some t:=⟨_,List.getElem?_eq_getElem (by rw[←HN.out];exact hlt)⟩
     obtain⟨b,o,u,rfl,hc,hb⟩:=HAT.out j t ht
     have hst:(bs.take (j+1)).flatten=(bs.take j).flatten++t:=by
      rw[List.take_add_one,ht,List.flatten_append];simp
     have hfl2:=zdB bs (j+1)
     rw[hst,List.length_append] at hfl2
     have hc':=zaa HJ.out.2 _ _ hc
     obtain⟨v7,w7,hr7,hO7,hg7,-⟩:=zbh HJ.out.1 (hb.below HJ.out.2) (by have:=HL.out;omega) HJ.out.2.size
     obtain⟨-,ua,uc,rfl,-⟩:=hb.open
     obtain⟨a7,n7,k7,rfl⟩:∃ a n c,v7= .slice a n c:=by (obtain⟨-,-,a,c,e,-⟩:=zbQ hO7 (by rw[List.length_append];have:=HL.out;omega);exact⟨_,_,_,e⟩)
     have HO7:=hid hO7
     have HB7:=hid (zc7 HJ.out.1 HJ.out.2 hg7)
     have HST:=hid hst
     have HR:=hid hr7
     clear hO7 hg7 hr7 hst hb ht hfl2
     go_wp2_with (at_builtin;refine zad rfl _ _ _ rfl _ _ rfl rfl HR.out ?_)
     refine⟨⟨j+1,a7,n7,k7,by go_num,rfl,hlt,by rw[HST.out];exact HO7.out,HB7.out⟩,by simp[intOf];omega⟩
    ·
     obtain rfl:j=i:=by omega
     go_wp2_with fail
     go_ret
     refine⟨_,rfl,?_,HJ.out.2⟩
     have h9:=HJ.out.1
     rw[List.take_of_length_le (by rw[←HN.out];exact Nat.le_refl _)] at h9
     exact h9
end
section
open Go.RowKit Go.Shelf
def zcC (n0:Nat)(w:World)(base:Nat)(v:Value)(bs:List (List UInt8)):Prop:=
 ∃ vs:List Value,vs.length=bs.length∧w.ownsRow base 47 1 v bs.length vs∧∀ w',(∀ b,b<n0→w'.heap[b]?=w.heap[b]?)→∀ (i:Nat) (u:Value) (t:List UInt8),vs[i]?=some u→bs[i]?=some t→zal w' u t
theorem zcC.nil (n0:Nat)(w:World)(base:Nat):zcC n0 w base zaA []:=⟨[],rfl,World.ownsRow_nil _ _ _ _,fun _ _ i u t h=>by simp at h⟩
theorem zcC.form {n0:Nat}{w:World}{base:Nat}{v:Value}{bs:List (List UInt8)}(h:zcC n0 w base v bs):∃ a c,v= .slice a bs.length c:=by
 obtain⟨vs,-,h2,-⟩:=h
 rcases h2.2 with ⟨h1,h0⟩|⟨g,cap,cur,hv,-⟩
 ·
  exact⟨none,0,by rw[h1,h0]⟩
 ·
  exact⟨_,_,hv⟩
theorem zcC.own {n0:Nat}{w:World}{base:Nat}{v:Value}{bs:List (List UInt8)}(h:zcC n0 w base v bs)(b:Nat)(e:v.ownBlock=some b):base≤b∧b<w.heap.size:=by
 obtain⟨vs,-,h2,-⟩:=h
 exact World.ownsRow.lt h2 b e
theorem zcC.keep {n0:Nat}{w w':World}{base:Nat}{v:Value}{bs:List (List UInt8)}(h:zcC n0 w base v bs)(hk:∀ b,v.ownBlock=some b→w'.heap[b]?=w.heap[b]?)(h0:∀ b,b<n0→w'.heap[b]?=w.heap[b]?):zcC n0 w' base v bs:=by
 obtain⟨vs,h1,h2,h3⟩:=h
 refine⟨vs,h1,?_,fun w2 hw2=>h3 w2 fun b hb=>(hw2 b hb).trans (h0 b hb)⟩
 refine⟨h2.1,?_⟩
 rcases h2.2 with h|⟨g,cap,cur,hv,hb,hg,hr⟩
 ·
  exact .inl h
 ·
  exact .inr ⟨g,cap,cur,hv,hb,(hk g (by rw[hv];rfl)).trans hg,hr⟩
theorem zan.keep {w w':World}{base:Nat}{v:Value}{l:List Nat}(h:zan w base v l)(hk:∀ b,v.ownBlock=some b→w'.heap[b]?=w.heap[b]?):zan w' base v l:=by
 refine⟨h.1,?_⟩
 rcases h.2 with h|⟨g,cap,cur,hv,hb,hg,hr⟩
 ·
  exact .inl h
 ·
  exact .inr ⟨g,cap,cur,hv,hb,(hk g (by rw[hv];rfl)).trans hg,hr⟩
theorem zan.own {w:World}{base:Nat}{v:Value}{l:List Nat}(h:zan w base v l)(b:Nat)(e:v.ownBlock=some b):base≤b∧b<w.heap.size:=World.ownsRow.lt h b e
theorem zcC.at {n0:Nat}{w:World}{base:Nat}{v:Value}{bs:List (List UInt8)}(h:zcC n0 w base v bs)(hn:bs.length≤140737488355328):zld w v bs:=by
 obtain⟨vs,h1,h2,h3⟩:=h
 exact⟨vs,h1,zbQ h2 hn,h3 w fun _ _=>rfl⟩
theorem zpu:(Tryz.prog.info? 47).map (fun i=>(i.zero,i.size,i.bytes))=some (some (.slice none 0 0),1,24):=by kernel_rfl
theorem zcC.one {n0:Nat}{W:World}{base:Nat}{v u:Value}{bs:List (List UInt8)}(h:zcC n0 W base v bs)(t:List UInt8)(hu1:u.oneCell'=true)(hu:∀ w',(∀ b,b<n0→w'.heap[b]?=W.heap[b]?)→zal w' u t)(hn:bs.length≤1099511627776)(hB:base≤W.heap.size)(hn0:n0≤base) :
  ∃ v' w',(Builtin.append_ #[252,252] 252 #[v,.slice (some ⟨W.heap.size,0,none⟩) 1 1]).run Tryz.prog (W.alloc (.cells #[u] 47))= .ok v' w'∧zcC n0 w' base v' (bs++[t])∧W.grownBy w' v.ownBlock∧(v'.ownBlock=v.ownBlock∨∃ b,v'.ownBlock=some b∧W.heap.size≤b):=by
 obtain⟨vs,g1,g2,g3⟩:=h
 have hA:Below W.heap.size W (W.alloc (.cells #[u] 47)):=(Below.refl _ _).alloc (Nat.le_refl _) _
 have hx:Seg (W.alloc (.cells #[u] 47)) (.slice (some ⟨W.heap.size,0,none⟩) 1 1) 1 1 [u]:=zcA (Blk.new W [u] _) 1 1 rfl (by omega)
 have h':(W.alloc (.cells #[u] 47)).ownsRow base 47 1 v bs.length vs:=zaL g2 fun b _ _ he=>hA.block b (Array.getElem?_eq_some_iff.1 he).1
 obtain⟨v',w',h1,h2,h3,h4⟩:=zba (P:=Tryz.prog) _ base 252 252 47 (.slice none 0 0) 1 24 zmc zpu rfl (by decide) v _ bs.length 1 _ _ h' hx (by intro y hy;simp at hy;subst hy;exact hu1) (by omega) (by omega) (by simp;omega)
 have hG:W.grownBy w' v.ownBlock:=⟨h3.os,h3.tape,h3.output,Nat.le_trans (by simp) h3.size,fun k hk hr=>(h3.block k (by simp;omega) hr).trans (Below.heap_alloc W _ k hk)⟩
 have h0:∀ b,b<n0→w'.heap[b]?=W.heap[b]?:=fun b hb=>hG.block b (by omega) fun e=>by have:=(World.ownsRow.lt g2 b e.symm).1;omega
 refine⟨v',w',h1,⟨vs++[u],by simp[g1],by rw[List.length_append];exact h2,fun w2 hw2 i y s hy hs=>?_⟩,hG,?_⟩
 ·
  have hw:∀ b,b<n0→w2.heap[b]?=W.heap[b]?:=fun b hb=>(hw2 b hb).trans (h0 b hb)
  by_cases hi:i<vs.length
  ·
   rw[List.getElem?_append_left hi] at hy
   rw[List.getElem?_append_left (by omega)] at hs
   exact g3 w2 hw i y s hy hs
  ·
   have hi2:i=vs.length:=by
    have:=(List.getElem?_eq_some_iff.1 hy).1
    simp at this;omega
   subst hi2
   rw[List.getElem?_concat_length] at hy
   rw[g1,List.getElem?_concat_length] at hs
   cases hy;cases hs
   exact hu w2 hw
 ·
  rcases h4 with h4|h4
  ·
   exact .inl h4
  ·
   exact .inr ⟨_,h4,by simp⟩
structure Pcs (n0 B:Nat)(f:Fld)(g:Nat)(wv vv:Value)(ws:List Nat)(bs:List (List UInt8))(w:World):Prop where
 box:Blk w g (f.cells++[wv,vv]) 254
 words:zan w B wv ws
 vals:zcC n0 w B vv bs
 wg:wv.ownBlock≠some g
 vg:vv.ownBlock≠some g
 wv:∀ b,wv.ownBlock=some b→vv.ownBlock≠some b
 bg:B≤g
def zd1 (g:Nat)(wv vv:Value)(w:World)(wv' vv':Value)(w':World):Prop:=
 w'.os=w.os∧w'.tape=w.tape∧w'.output=w.output∧w.heap.size≤w'.heap.size∧(∀ b,b<w.heap.size→b≠g→wv.ownBlock≠some b→vv.ownBlock≠some b→w'.heap[b]?=w.heap[b]?) ∧
 (wv'.ownBlock=wv.ownBlock∨∃ b,wv'.ownBlock=some b∧w.heap.size≤b)∧(vv'.ownBlock=vv.ownBlock∨∃ b,vv'.ownBlock=some b∧w.heap.size≤b)
theorem Pcs.below {n0 B:Nat}{f:Fld}{g:Nat}{wv vv:Value}{ws:List Nat}{bs:List (List UInt8)}{w w':World}(h:Pcs n0 B f g wv vv ws bs w)(hb:Below w.heap.size w w')(hn:n0≤B):Pcs n0 B f g wv vv ws bs w':=
 ⟨h.box.below hb,h.words.later hb,h.vals.keep (fun b e=>hb.block b (h.vals.own b e).2) (fun b hlt=>hb.block b (by have:=h.box.lt;have:=h.bg;omega)),h.wg,h.vg,h.wv,h.bg⟩
theorem zme {w:World}{base:Nat}{v x:Value}{l m:List Nat}(h:zan w base v l)(hx:zby w x m)(hlen:l.length+m.length≤17592186044416)(hbase:base≤w.heap.size) :
  ∃ v' w',(Builtin.append_ #[62,62] 62 #[v,x]).run Tryz.prog w= .ok v' w'∧zan w' base v' (l++m)∧w.grownBy w' v.ownBlock∧(v'.ownBlock=v.ownBlock∨∃ b,v'.ownBlock=some b∧w.heap.size≤b):=by
 obtain⟨v',w',hr,hO,hg,hat⟩:=zba (P:=Tryz.prog) w base 62 62 107 (.int .u64 0) 1 8 zev zhZ rfl (by decide) v x l.length m.length _ _ h hx.1
  (by intro u hu;obtain⟨c,-,rfl⟩:=List.mem_map.1 hu;rfl) (by omega) (by omega) hbase
 refine⟨v',w',hr,?_,hg,hat.imp id fun e=>⟨_,e,Nat.le_refl _⟩⟩
 unfold zan
 rw[List.length_append,List.map_append]
 exact hO
theorem zmf {W:World}{base:Nat}{v:Value}{l:List Nat}(h:zan W base v l)(y:Nat)(hn:l.length≤1099511627776)(hB:base≤W.heap.size) :
  ∃ v' w',(Builtin.append_ #[62,62] 62 #[v,.slice (some ⟨W.heap.size,0,none⟩) 1 1]).run Tryz.prog (W.alloc (.cells #[.int .u64 (y:Int)] 107))= .ok v' w'∧zan w' base v' (l++[y])∧W.grownBy w' v.ownBlock∧(v'.ownBlock=v.ownBlock∨∃ b,v'.ownBlock=some b∧W.heap.size≤b):=by
 have hA:Below W.heap.size W (W.alloc (.cells #[.int .u64 (y:Int)] 107)):=(Below.refl _ _).alloc (Nat.le_refl _) _
 have hx:Seg (W.alloc (.cells #[.int .u64 (y:Int)] 107)) (.slice (some ⟨W.heap.size,0,none⟩) 1 1) 1 1 [.int .u64 (y:Int)]:=zcA (Blk.new W [.int .u64 (y:Int)] _) 1 1 rfl (by omega)
 obtain⟨v',w',h1,h2,h3,h4⟩:=zba (P:=Tryz.prog) _ base 62 62 107 (.int .u64 0) 1 8 zev zhZ rfl (by decide) v _ l.length 1 _ _ (h.later hA) hx (by intro u hu;simp at hu;subst hu;rfl) (by omega) (by omega) (by simp;omega)
 refine⟨v',w',h1,?_,⟨h3.os,h3.tape,h3.output,Nat.le_trans (by simp) h3.size,fun k hk hr=>(h3.block k (by simp;omega) hr).trans (Below.heap_alloc W _ k hk)⟩,h4.imp id fun e=>⟨_,e,by simp⟩⟩
 unfold zan
 rw[List.length_append,List.map_append]
 exact h2
theorem Pcs.pushW {n0 B:Nat}{f:Fld}{g:Nat}{wv vv wv':Value}{ws ws':List Nat}{bs:List (List UInt8)}{w w7:World}(h:Pcs n0 B f g wv vv ws bs w)(hg:w.grownBy w7 wv.ownBlock)(hO:zan w7 B wv' ws')
  (hat:wv'.ownBlock=wv.ownBlock∨∃ b,wv'.ownBlock=some b∧w.heap.size≤b) (hn0:n0≤B) :
  Blk w7 g (f.cells++[wv,vv]) 254∧Pcs n0 B f g wv' vv ws' bs (w7.setCell ⟨g,6,none⟩ wv')∧zd1 g wv vv w wv' vv (w7.setCell ⟨g,6,none⟩ wv'):=by
 have hgl:=h.box.lt
 have hbg:=h.bg
 have b7:Blk w7 g (f.cells++[wv,vv]) 254:=(hg.block g hgl (fun e=>h.wg e.symm)).trans h.box
 have hwg:wv'.ownBlock≠some g:=by
  rcases hat with e|⟨b,e,hb⟩
  ·
   rw[e];exact h.wg
  ·
   rw[e];intro e2;injection e2 with e2;omega
 refine⟨b7,⟨by simpa [Fld.cells] using b7.set 6 wv',hO.keep fun b e=>Below.heap_setCell _ _ _ b (by show b≠g;rintro rfl;exact hwg e),?_,hwg,h.vg,?_,hbg⟩,hg.os,hg.tape,hg.output,by simpa using hg.size,?_,hat,.inl rfl⟩
 ·
  refine h.vals.keep (fun b e=>?_) fun b hb=>?_
  ·
   rw[Below.heap_setCell _ _ _ b (by show b≠g;rintro rfl;exact h.vg e)]
   exact hg.block b (h.vals.own b e).2 fun e2=>h.wv b e2.symm e
  ·
   rw[Below.heap_setCell _ _ _ b (by show b≠g;omega)]
   exact hg.block b (by omega) fun e=>by have:=(h.words.own b e.symm).1;omega
 ·
  intro b e e2
  rcases hat with e3|⟨b',e3,hb⟩
  ·
   exact h.wv b (by rw[←e3];exact e) e2
  ·
   rw[e3] at e
   injection e with e
   have:=(h.vals.own b e2).2
   omega
 ·
  intro b hlt h1 h2 h3
  rw[Below.heap_setCell _ _ _ b (by show b≠g;exact h1)]
  exact hg.block b hlt fun e=>h2 e.symm
theorem Pcs.pushV {n0 B:Nat}{f:Fld}{g:Nat}{wv vv vv':Value}{ws:List Nat}{bs bs':List (List UInt8)}{w w7:World}(h:Pcs n0 B f g wv vv ws bs w)(hg:w.grownBy w7 vv.ownBlock)(hO:zcC n0 w7 B vv' bs')
  (hat:vv'.ownBlock=vv.ownBlock∨∃ b,vv'.ownBlock=some b∧w.heap.size≤b) (hn0:n0≤B) :
  Blk w7 g (f.cells++[wv,vv]) 254∧Pcs n0 B f g wv vv' ws bs' (w7.setCell ⟨g,7,none⟩ vv')∧zd1 g wv vv w wv vv' (w7.setCell ⟨g,7,none⟩ vv'):=by
 have hgl:=h.box.lt
 have hbg:=h.bg
 have b7:Blk w7 g (f.cells++[wv,vv]) 254:=(hg.block g hgl (fun e=>h.vg e.symm)).trans h.box
 have hvg:vv'.ownBlock≠some g:=by
  rcases hat with e|⟨b,e,hb⟩
  ·
   rw[e];exact h.vg
  ·
   rw[e];intro e2;injection e2 with e2;omega
 refine⟨b7,⟨by simpa [Fld.cells] using b7.set 7 vv',?_,?_,h.wg,hvg,?_,hbg⟩,hg.os,hg.tape,hg.output,by simpa using hg.size,?_,.inl rfl,hat⟩
 ·
  refine h.words.keep fun b e=>?_
  rw[Below.heap_setCell _ _ _ b (by show b≠g;rintro rfl;exact h.wg e)]
  exact hg.block b (h.words.own b e).2 fun e2=>h.wv b e e2.symm
 ·
  refine hO.keep (fun b e=>Below.heap_setCell _ _ _ b (by show b≠g;rintro rfl;exact hvg e)) fun b hb=>Below.heap_setCell _ _ _ b (by show b≠g;omega)
 ·
  intro b e e2
  rcases hat with e3|⟨b',e3,hb⟩
  ·
   exact h.wv b e (by rw[←e3];exact e2)
  ·
   rw[e3] at e2
   injection e2 with e2
   have:=(h.words.own b e).2
   omega
 ·
  intro b hlt h1 h2 h3
  rw[Below.heap_setCell _ _ _ b (by show b≠g;exact h1)]
  exact hg.block b hlt fun e=>h3 e.symm
theorem zd1.ahead {g:Nat}{wv vv wv' vv':Value}{w W1 w':World}(hb1:Below w.heap.size w W1)(h:zd1 g wv vv W1 wv' vv' w'):zd1 g wv vv w wv' vv' w':=by
 obtain⟨s1,s2,s3,s4,s5,s6,s7⟩:=h
 exact⟨s1.trans hb1.os,s2.trans hb1.tape,s3.trans hb1.output,Nat.le_trans hb1.size s4,fun b hlt g1 g2 g3=>(s5 b (Nat.lt_of_lt_of_le hlt hb1.size) g1 g2 g3).trans (hb1.block b hlt),s6.imp id fun ⟨b,e,hb⟩=>⟨b,e,Nat.le_trans hb1.size hb⟩,s7.imp id fun ⟨b,e,hb⟩=>⟨b,e,Nat.le_trans hb1.size hb⟩⟩
theorem zan.form' {w:World}{base:Nat}{v:Value}{l:List Nat}(h:zan w base v l):∃ a n c,v= .slice a n c:=by
 obtain⟨a,c,e⟩:=h.form;exact⟨a,_,c,e⟩
theorem zcC.form' {n0:Nat}{w:World}{base:Nat}{v:Value}{l:List (List UInt8)}(h:zcC n0 w base v l):∃ a n c,v= .slice a n c:=by
 obtain⟨a,c,e⟩:=h.form;exact⟨a,_,c,e⟩
theorem zpv {n0 B:Nat}{f:Fld}{g:Nat}{wv vv:Value}{ws:List Nat}{bs:List (List UInt8)}{w:World}(h:Pcs n0 B f g wv vv ws bs w)(hn0:n0≤B)(hws:ws.length≤1099511627776)(hbs:bs.length≤1099511627776)
  {l:List UInt8} {x:VW} {bv:Value} (hbv:∀ w',(∀ b,b<n0→w'.heap[b]?=w.heap[b]?)→zal w' bv (zah l x)) (hlen:(zah l x).length≤1099511627776) (hpl:(zam f l x).length≤1099511627776) (hrun:x.run=true→zac f.kind=true) :
  Calls Tryz.prog 165 #[.pointer (some ⟨g,0,none⟩),zc4 x.r x.k x.run,bv] w fun e w'=>e= .returned (.tuple #[])∧∃ wv' vv',Pcs n0 B f g wv' vv' (ws++zam f l x) (bs++zaI f l x) w'∧zd1 g wv vv w wv' vv' w':=by
 obtain⟨⟨x1,x2,x3,x4,x5⟩,xk,xrun⟩:=x
 obtain⟨wa,wc,rfl⟩:=h.words.form
 obtain⟨va,vc,rfl⟩:=h.vals.form
 obtain⟨W1,HW1⟩:∃ W1,Hid (W1=w.alloc (.cells #[.int .i64 x1,.int .i64 x2,.int .i64 x3,.int .i64 x4,.int .i64 x5,.int .i64 xk,.bool xrun] 212)):=⟨_,rfl⟩
 have hb1:Below w.heap.size w W1:=by rw[HW1.out];exact (Below.refl _ _).alloc (Nat.le_refl _) _
 have hx1:Blk W1 w.heap.size [.int .i64 x1,.int .i64 x2,.int .i64 x3,.int .i64 x4,.int .i64 x5,.int .i64 xk,.bool xrun] 212:=by rw[HW1.out];exact Blk.new w [.int .i64 x1,.int .i64 x2,.int .i64 x3,.int .i64 x4,.int .i64 x5,.int .i64 xk,.bool xrun] _
 have h1:=h.below hb1 hn0
 have hgw:B≤W1.heap.size:=by have:=h1.box.lt;have:=h1.bg;omega
 have hv1:∀ w',(∀ b,b<n0→w'.heap[b]?=W1.heap[b]?)→zal w' bv (zah l ⟨⟨x1,x2,x3,x4,x5⟩,xk,xrun⟩):=fun w' hw'=>hbv w' fun b hb=>(hw' b hb).trans (hb1.block b (by have:=h.box.lt;have:=h.bg;omega))
 have hby:=hv1 W1 fun _ _=>rfl
 obtain⟨hbl,ba,bc,rfl,-⟩:=hby.open
 obtain⟨y,HY⟩:∃ y,Hid (y=zah l ⟨⟨x1,x2,x3,x4,x5⟩,xk,xrun⟩):=⟨_,rfl⟩
 rw[←HY.out] at hv1 hby hbl hlen
 obtain⟨bn,HBN⟩:∃ n,Hid (n=y.length):=⟨_,rfl⟩
 have HST:Hid (∀ wv' vv' w',zd1 g (.slice wa ws.length wc) (.slice va bs.length vc) W1 wv' vv' w'→zd1 g (.slice wa ws.length wc) (.slice va bs.length vc) w wv' vv' w'):=fun _ _ _ h=>h.ahead hb1
 have f2:=h1.box.cell 2 (.int .i64 f.kind) rfl
 have f6:=h1.box.cell 6 _ rfl
 have f7:=h1.box.cell 7 _ rfl
 have fz6:=h1.box.free 6
 have fz7:=h1.box.free 7
 have fl:=h1.box.lt
 have c6:=hx1.cell 6 _ rfl
 have H1:=hid h1
 have HV1:=hid hv1
 have HBY:=hid hby
 have HGW:=hid hgw
 have HLN:=hid hlen
 obtain⟨wl,HWL⟩:∃ n,Hid (n=ws.length):=⟨_,rfl⟩
 obtain⟨vl,HVL⟩:∃ n,Hid (n=bs.length):=⟨_,rfl⟩
 obtain⟨pw,HPW⟩:∃ pw,Hid (pw=zam f l ⟨⟨x1,x2,x3,x4,x5⟩,xk,xrun⟩):=⟨_,rfl⟩
 obtain⟨pb,HPB⟩:∃ pb,Hid (pb=zaI f l ⟨⟨x1,x2,x3,x4,x5⟩,xk,xrun⟩):=⟨_,rfl⟩
 rw[←HWL.out,←HVL.out] at H1 HST
 rw[←HWL.out] at f6 hws
 rw[←HVL.out] at f7 hbs
 rw[←HBN.out] at hbl hlen HV1 HBY
 rw[←HPW.out] at hpl ⊢
 rw[←HPB.out,←HY.out,←HBN.out]
 unfold zc4
 simp only at hrun ⊢
 have HPL:=hid hpl
 have HWS:=hid hws
 have HBS:=hid hbs
 clear h hb1 hx1 h1 hgw hbv hv1 hby hpl
 go_enter Tryz.func165,Tryz.ntmps165
 go_upto_region 2 with fail
 rw[←HW1.out]
 cases xrun with
 | true =>
  have hk:=hrun rfl
  have HK:=hid hk
  have HPE:Hid (pw=(zce f.kind y).1):=by
   rw[HPW.out,HY.out];unfold zam;rw[if_pos rfl];exact Eq.refl _
  have HPB0:Hid (pb=[]):=by
   rw[HPB.out];unfold zaI;rw[if_pos (.inl rfl)];exact Eq.refl _
  have HRW:=hid (zl8 HBY.out HLN.out f.kind hk)
  have HPT:Hid (∀ u∈pw,u<2 ^ 64):=by rw[HPW.out];exact fun u hu=>zed hu
  clear hk hrun
  go_wp2_with (first|(go_at_call 182;refine HRW.out.mono ?_;rintro e w6 ⟨v6,rfl,hO6,hb6⟩;rw[←HPE.out] at hO6;obtain⟨a6,c6',rfl⟩:=hO6.form;have H6:=H1.out.below hb6 hn0;obtain⟨v7,w7,hr,hO7,hg7,hat7⟩:=zme H6.words (hO6.words (by have:=HPL.out;omega) HPT.out) (by have:=HPL.out;have:=HWS.out;have:=HWL.out;omega) (by have:=hb6.size;have:=HGW.out;omega);obtain⟨a7,n7,c7,rfl⟩:=hO7.form';obtain⟨g1,g2,g3⟩:=H6.pushW hg7 hO7 hat7 hn0;have q0:=H6.box.cell 6 _ rfl;have q1:=g1.cell 6 _ rfl;have q2:=g1.free 6;have q3:=g1.lt;have HR:=hid hr;have G2:=hid g2;have G3:=hid g3;have HB6:=hid hb6;clear hr g1 g2 g3 hO7 hg7 hat7 H6 hO6 hb6)|(at_builtin;refine zad rfl _ _ _ rfl _ _ rfl rfl HR.out ?_))
  go_end0
  refine⟨rfl,.slice a7 n7 c7,.slice va vl vc,?_,?_⟩
  ·
   rw[HPB0.out,List.append_nil];exact G2.out
  ·
   rw[←HWL.out,←HVL.out];exact HST.out _ _ _ (G3.out.ahead HB6.out)
 | false =>
  cases hnum:zac f.kind with
  | true =>
   have HK:=hid hnum
   obtain⟨zw,HZW⟩:∃ zw,Hid (zw=zdd f.kind y):=⟨_,rfl⟩
   obtain⟨z1,z2⟩:=zw
   have HPE:Hid (pw=[z1]):=by
    rw[HPW.out];unfold zam;rw[if_neg (show ¬ false=true by decide),if_pos HK.out,←HY.out,←HZW.out];exact Eq.refl _
   have HPB0:Hid (pb=[]):=by
    rw[HPB.out];unfold zaI;rw[if_pos (.inr HK.out)];exact Eq.refl _
   have HRD:=hid (zdx HK.out HBY.out)
   rw[←HZW.out] at HRD
   clear hnum hrun
   go_wp2_with (first|(go_at_call 129;refine (zaQ f.kind _).mono ?_;rintro e w5 ⟨rfl,hb5⟩;rw[HK.out];have k2:=zaa hb5 _ _ f2;have HB5:=hid hb5;have HBY5:=hid (HV1.out w5 fun b hb=>hb5.block b (by have:=H1.out.box.lt;have:=H1.out.bg;omega));clear hb5)|(go_at_call 131;refine (zdx HK.out HBY5.out).mono ?_;rintro e w6 ⟨rfl,hb6⟩;rw[←HZW.out];have hb16:=HB5.out.trans (hb6.mono HB5.out.size);have H6:=H1.out.below hb16 hn0;obtain⟨v7,w7,hr,hO7,hg7,hat7⟩:=zmf H6.words z1 (by have:=HWS.out;have:=HWL.out;omega) (by have:=hb16.size;have:=HGW.out;omega);obtain⟨a7,n7,c7,rfl⟩:=hO7.form';obtain⟨g1,g2,g3⟩:=H6.pushW hg7 hO7 hat7 hn0;have q0:=H6.box.cell 6 _ rfl;have q1:=g1.cell 6 _ rfl;have q2:=g1.free 6;have q3:=g1.lt;have HR:=hid hr;have G2:=hid g2;have G3:=hid g3;have HB6:=hid hb16;clear hr g1 g2 g3 hO7 hg7 hat7 H6 hb6 hb16)|(at_builtin;refine zad rfl _ _ _ rfl _ _ rfl rfl HR.out ?_))
   go_end0
   refine⟨rfl,.slice a7 n7 c7,.slice va vl vc,?_,?_⟩
   ·
    rw[HPB0.out,List.append_nil,HPE.out];exact G2.out
   ·
    rw[←HWL.out,←HVL.out];exact HST.out _ _ _ (G3.out.ahead HB6.out)
  | false =>
   have HK:=hid hnum
   have HPE:Hid (pw=[]):=by
    rw[HPW.out];unfold zam;rw[if_neg (show ¬ false=true by decide),if_neg (by rw[HK.out];decide)];exact Eq.refl _
   have HPB0:Hid (pb=[y]):=by
    rw[HPB.out];unfold zaI;rw[if_neg (by rw[HK.out];simp),←HY.out];exact Eq.refl _
   clear hnum hrun
   go_wp2_with (first|(go_at_call 129;refine (zaQ f.kind _).mono ?_;rintro e w6 ⟨rfl,hb6⟩;rw[HK.out];have H6:=H1.out.below hb6 hn0;obtain⟨v7,w7,hr,hO7,hg7,hat7⟩:=H6.vals.one y (u:=.slice ba bn bc) rfl (fun w' hw'=>HV1.out w' fun b hb=>(hw' b hb).trans (hb6.block b (by have:=H1.out.box.lt;have:=H1.out.bg;omega))) (by have:=HBS.out;have:=HVL.out;omega) (by have:=hb6.size;have:=HGW.out;omega) hn0;obtain⟨a7,n7,c7,rfl⟩:=hO7.form';obtain⟨g1,g2,g3⟩:=H6.pushV hg7 hO7 hat7 hn0;have q0:=H6.box.cell 7 _ rfl;have q1:=g1.cell 7 _ rfl;have q2:=g1.free 7;have q3:=g1.lt;have HR:=hid hr;have G2:=hid g2;have G3:=hid g3;have HB6:=hid hb6;clear hr g1 g2 g3 hO7 hg7 hat7 H6 hb6)|(at_builtin;refine zad rfl _ _ _ rfl _ _ rfl rfl HR.out ?_))
   go_end0
   refine⟨rfl,.slice wa wl wc,.slice a7 n7 c7,?_,?_⟩
   ·
    rw[HPB0.out,HPE.out,List.append_nil];exact G2.out
   ·
    rw[←HWL.out,←HVL.out];exact HST.out _ _ _ (G3.out.ahead HB6.out)
end
section
open Go.RowKit
def zmg (f:Fld)(bs:List (List UInt8)):List (List UInt8):=if f.rep=true then bs else if f.kind=17 then [bs.flatten] else zbn bs
theorem zq1 {f:Fld}{l:List UInt8}{xs:List VW}(hrun:f.rep=false→∀ x∈xs,x.run=false):(if f.rep=true then xs.flatMap (zam f l) else zbn (xs.flatMap (zam f l)))=(counts f xs).flatMap (zam f l):=by
 unfold counts
 by_cases h:f.rep=true
 ·
  rw[if_pos h,if_pos h]
 ·
  rw[if_neg h,if_neg h]
  have hr:=hrun (by simpa using h)
  refine ziw _ _ ?_
  by_cases hk:zac f.kind=true
  ·
   refine .inl fun x hx=>?_
   unfold zam
   rw[if_neg (by rw[hr x hx];decide),if_pos hk];rfl
  ·
   refine .inr fun x hx=>?_
   unfold zam
   rw[if_neg (by rw[hr x hx];decide),if_neg hk]
theorem zq2 {f:Fld}{l:List UInt8}{xs:List VW}(hrun:∀ x∈xs,x.run=true→zac f.kind=true)(h17:f.kind≠17):zmg f (xs.flatMap (zaI f l))=(counts f xs).flatMap (zaI f l):=by
 unfold zmg counts
 by_cases h:f.rep=true
 ·
  rw[if_pos h,if_pos h]
 ·
  rw[if_neg h,if_neg h,if_neg h17]
  refine ziw _ _ ?_
  by_cases hk:zac f.kind=true
  ·
   refine .inr fun x hx=>?_
   unfold zaI
   rw[if_pos (.inr hk)]
  ·
   refine .inl fun x hx=>?_
   unfold zaI
   rw[if_neg (by rintro (h1|h1);exact hk (hrun x hx h1);exact hk h1)];rfl
theorem zs4 {f:Fld}{l:List UInt8}{xs:List VW}(hrun:∀ x∈xs,x.run=true→zac f.kind=true)(h17:f.kind=17):xs.flatMap (zaI f l)=xs.map (zah l):=by
 have hk:¬ zac f.kind=true:=by rw[h17];decide
 induction xs with
 | nil=>rfl
 | cons x r ih =>
  rw[List.flatMap_cons,List.map_cons,ih fun y hy=>hrun y (by simp[hy])]
  unfold zaI
  rw[if_neg (by rintro (h1|h1);exact hk (hrun x (by simp) h1);exact hk h1)]
  rfl
theorem zoC {s:List Mes}{d:Nat}{f:Fld}{l:List UInt8}{xs:List VW}(hrun:∀ x∈xs,x.run=true→zac f.kind=true)(h17:f.kind=17)(hne:xs≠[]) :
  (zmg f (xs.flatMap (zaI f l))).flatMap (zdz s d f.of)=(zay (zdz s d) f l xs).subs:=by
 rw[zs4 hrun h17]
 unfold zay zmg
 simp only
 rw[if_pos h17]
 by_cases h:f.rep=true
 ·
  rw[if_pos h,if_pos h,List.flatMap_map,if_pos h17]
 ·
  rw[if_neg h,if_neg h,if_pos h17,if_neg hne]
  simp[List.flatMap_def]
theorem pcs_ok {R:Int→List UInt8→Prop}{f:Fld}{l:List UInt8}{xs:List VW}(h:zbz R f l xs)(h17:f.kind=17)(hne:xs≠[]):∀ b∈zmg f (xs.flatMap (zaI f l)),R f.of b:=by
 have hrun:∀ x∈xs,x.run=true→zac f.kind=true:=fun x hx hr=>(h.run x hx hr).2
 rw[zs4 hrun h17]
 unfold zmg
 intro b hb
 by_cases hr:f.rep=true
 ·
  rw[if_pos hr] at hb
  obtain⟨x,hx,rfl⟩:=List.mem_map.1 hb
  exact (h.sub h17).1 x hx
 ·
  rw[if_neg hr,if_pos h17] at hb
  simp at hb
  subst hb
  have:=(h.sub h17).2 (by simpa using hr) hne
  rwa [List.flatMap_def] at this
theorem zle {f:Fld}{l:List UInt8}{xs:List VW}(ht:∀ x∈xs,zd5 x)(hv:zbt xs≤1099511627776):(zmg f (xs.flatMap (zaI f l))).length≤1099511627776∧(∀ b∈zmg f (xs.flatMap (zaI f l)),b.length≤1099511627776)∧(xs.flatMap (zaI f l)).flatten.length≤1099511627776∧(xs.flatMap (zaI f l)).length≤1099511627776:=by
 have h1:∀ ys:List VW,(∀ x∈ys,zd5 x)→(ys.flatMap (zaI f l)).flatten.length+(ys.flatMap (zaI f l)).length≤zbt ys:=by
  intro ys
  induction ys with
  | nil=>simp
  | cons x r ih =>
   intro hy
   have g1:=hy x (by simp)
   have g2:=ih fun y h=>hy y (by simp[h])
   have g3:=zbi l x
   have g4:(zaI f l x).flatten.length+(zaI f l x).length≤zc9 x:=by
    unfold zd5 at g1
    unfold zaI
    split
    ·
     simp
    ·
     simp;omega
   rw[List.flatMap_cons,List.flatten_append,List.length_append,List.length_append]
   have:zbt (x::r)=zc9 x+zbt r:=by unfold zbt;rw[List.map_cons,List.sum_cons]
   omega
 have h2:=h1 xs ht
 have h3:∀ b∈xs.flatMap (zaI f l),b.length≤(xs.flatMap (zaI f l)).flatten.length:=by
  intro b hb
  have:∀ bs:List (List UInt8),b∈bs→b.length≤bs.flatten.length:=by
   intro bs
   induction bs with
   | nil=>simp
   | cons c r ih =>
    intro h
    rcases List.mem_cons.1 h with rfl|h
    ·
     simp
    ·
     have:=ih h
     rw[List.flatten_cons,List.length_append];omega
  exact this _ hb
 refine⟨?_,?_,by omega,by omega⟩
 ·
  unfold zmg
  split
  ·
   omega
  ·
   split
   ·
    simp
   ·
    unfold zbn;rw[List.length_drop];omega
 ·
  unfold zmg
  intro b hb
  split at hb
  ·
   have:=h3 b hb;omega
  ·
   split at hb
   ·
    simp at hb;subst hb;simp at h2 ⊢;omega
   ·
    have:=h3 b (zj1 _ hb);omega
end
section
open Go.RowKit
def zq3 (w0:World)(sv:Value)(s:List Mes)(d:Nat):Prop:=∀ (m:Nat) (w:World) (v:Value) (l:List UInt8),m<s.length→Below w0.heap.size w0 w→zal w v l→l.length≤1099511627776→(zdb s d m l).2=0 →
 Calls Tryz.prog 111 #[sv,.int .i64 (m:Int),v] w fun e w'=>∃ v',e= .returned v'∧Below w.heap.size w w'∧zc8 0 w.heap.size w' fun w2=>zat (d+1) w2 v' (tof s d m l)
end
end Go.Proofs.YtpckoeicbjfnhaaGreatDoor
