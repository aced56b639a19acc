/- Parts of a proof: texts of the author, merged. No condition of their own. -/
import Derived.Test.YtpckoeicbjfnhaaGreatDoorShelf
import Derived.Test.YtpckoeicbjfnhaaGreatDoorY13
import Derived.Test.YtpckoeicbjfnhaaGreatDoorY29
import Derived.Test.YtpckoeicbjfnhaaGreatDoorY32
namespace Go.Proofs.YtpckoeicbjfnhaaGreatDoor
set_option maxRecDepth 100000
set_option maxHeartbeats 16000000
section
open Go.RowKit Go.Sort Go.Shelf
theorem zdG {α:Type}[Inhabited α](enc:α→Value){H blk off m:Nat}{w0 w:World}(hb:Go.RowKit.Below H w0 w)(hg:H≤blk)(hH:H≤w.heap.size)(dk:Array α)(os:Array Obj) :
  Go.RowKit.Below H w0 (sortWorld enc w blk off m dk os):=by
 refine⟨hb.os,hb.tape,hb.output,?_,fun k hk=>?_⟩
 ·
  refine Nat.le_trans hb.size ?_
  rw[sortWorld,size_grow,size_putRow]
  exact Nat.le_add_right _ _
 ·
  rw[sortWorld,heap_grow_old _ _ (by rw[size_putRow];exact Nat.lt_of_lt_of_le hk hH)]
  refine Eq.trans ?_ (hb.block k hk)
  rw[putRow,mapBlock]
  show (w.heap.modify blk _)[k]?=_
  rw[Array.getElem?_modify,if_neg (by omega)]
def WV (w:World):Type:={ p:Value × List Int // za1 w p.1 p.2 }
def WV.val {w:World}(p:WV w):Value:=p.1.1
def WV.way {w:World}(p:WV w):List Int:=p.1.2
def WV.mk {w:World}(v:Value)(x:List Int)(h:za1 w v x):WV w:=⟨(v,x),h⟩
theorem WV.way_mk {w:World}(v:Value)(x:List Int)(h:za1 w v x):(WV.mk v x h).way=x:=rfl
theorem WV.val_mk {w:World}(v:Value)(x:List Int)(h:za1 w v x):(WV.mk v x h).val=v:=rfl
theorem WV.one {w:World}(p:WV w):(WV.val p).oneCell'=true:=by
 obtain⟨-,a,c,h,-⟩:=p.2.open
 unfold WV.val
 rw[h];rfl
theorem zpT (a b c:List Int)(h1:ltW a b=false)(h2:ltW b c=false):ltW a c=false:=by
 cases h:ltW a c with
 | false=>rfl
 | true =>
  cases hba:ltW b a with
  | true=>rw[zee b a c hba h] at h2;cases h2
  | false =>
   have e:=zgz a b h1 hba
   subst e
   rw[h] at h2;cases h2
def ztt {w:World}(x y:WV w):Int:=zmh x.way y.way
theorem zfz {w:World}(x y:WV w):ltOf (ztt (w:=w)) x y=ltW x.way y.way:=zto _ _
theorem swo_WV (w:World):SWO (ltOf (ztt (w:=w))) where
 irrefl x:=by rw[zfz];exact zcR _
 trans x y z h1 h2:=by rw[zfz] at *;exact zee _ _ _ h1 h2
 ntrans x y z h1 h2:=by rw[zfz] at *;exact zpT _ _ _ h1 h2
theorem ziX {α:Type}[Inhabited α]{R:α→α→Prop}(l:List α)(h:∀ i j,i<j→j<l.length→R l.toArray[i]! l.toArray[j]!):l.Pairwise R:=by
 rw[List.pairwise_iff_getElem]
 intro i j hi hj hij
 have:=h i j hij hj
 rwa [getElem!_pos l.toArray i (by simpa using hi),getElem!_pos l.toArray j (by simpa using hj)] at this
theorem zrE {w0 w:World}{base:Nat}{v:Value}(ps:List (WV w0))(hne:ps≠[])(hO:zhg w base v (ps.map WV.val))(hbase:w0.heap.size≤base)(hb:Go.RowKit.Below w0.heap.size w0 w)(hlen:ps.length≤1099511627776) :
  Calls Tryz.prog 60 #[v,.func (.func 61) #[] #[]] w fun e w'=>e= .returned (.tuple #[]) ∧
   ∃ ps':List (WV w0),ps'.Perm ps∧(ps'.map WV.way).Pairwise (fun a b=>ltW b a=false)∧Seg w' v 1 ps'.length (ps'.map WV.val)∧Go.RowKit.Below w0.heap.size w0 w':=by
 haveI:Inhabited (WV w0):=⟨ps.head hne⟩
 have hpos:0<ps.length:=List.length_pos_iff.2 hne
 obtain⟨h1,hx⟩:=hO
 rcases hx with ⟨-,h2⟩|⟨g,cap,cur,rfl,hg,hc,hnc,hcm,hcs,ht⟩
 ·
  simp at h2;exact absurd h2 hne
 have hcell:∀ j (x:WV w0),ps[j]?=some x→w.cell? ⟨g,j,none⟩=some x.val:=by
  intro j x hj
  rw[cell_of_row _ _ _ cur _ (0,0) hc]
  have hjl:j<ps.length:=(List.getElem?_eq_some_iff.1 hj).1
  have e:(cur.toList.take ((ps.map WV.val).length*1))[j]?=(ps.map WV.val)[j]?:=by rw[ht]
  rw[List.getElem?_take,if_pos (by simpa using hjl)] at e
  rw[←Array.getElem?_toList,e]
  simp[hj]
 have hget:∀ j,j<ps.length→ps[j]?=some ps.toArray[j]!:=fun j hj=>by
  rw[getElem!_pos ps.toArray j (by simpa using hj),List.getElem?_eq_getElem hj];simp
 have hH:Holds WV.val w g 0 ps.toArray:=fun j hj=>by
  have hj':j<ps.length:=by simpa using hj
  rw[Nat.zero_add]
  refine⟨hcell j _ (hget j hj'),?_⟩
  unfold World.frozen?
  rw[hc];simp
 have hgl:g<w.heap.size:=(Array.getElem?_eq_some_iff.1 hc).1
 have hH0:w0.heap.size≤w.heap.size:=hb.size
 have key:=Any.slices_SortFunc Tryz.laysSF WV.val WV.one (ztt (w:=w0)) (swo_WV w0) 61 #[] g 0 cap ps.toArray w (fun args w=>by simp[go_sem])
  (fun m os dk _ x y=>(zmj ((x.2).keep (zaa (zdG WV.val hb (Nat.le_trans hbase hg) hH0 dk os))) ((y.2).keep (zaa (zdG WV.val hb (Nat.le_trans hbase hg) hH0 dk os)))).mono
   fun e w' ⟨he,hw⟩=>⟨he,0,#[],by rw[hw,grow_empty];rfl⟩)
  hH hgl (by simp;omega)
 have key2:Calls Tryz.prog 60 #[.slice (some ⟨g,0,none⟩) ps.length cap,.func (.func 61) #[] #[]] w _:=key
 rw[List.length_map]
 refine key2.mono ?_
 rintro e w' ⟨rfl,d',n,os,hp,hs,rfl⟩
 obtain⟨hp1,-,hp3⟩:=hp
 have hsz:d'.toList.length=ps.length:=by simpa using hp1
 have hd:d'=d'.toList.toArray:=by simp
 refine⟨rfl,d'.toList,?_,?_,⟨by simp,by rw[hsz];omega,some ⟨g,0,none⟩,cap,by rw[hsz],by rw[hsz];simpa using hnc,by unfold maxLen at hcm;omega,by simp,fun j u hu=>⟨g,0,rfl,?_⟩⟩,zdG WV.val hb (Nat.le_trans hbase hg) hH0 d' os⟩
 ·
  have e1:(d'.extract 0 ps.toArray.size).toList=d'.toList:=by
   rw[Array.toList_extract];simp[←hsz];exact List.take_of_length_le (by simp)
  have e2:(ps.toArray.extract 0 ps.toArray.size).toList=ps:=by simp
  rwa [e1,e2] at hp3
 ·
  rw[List.pairwise_map]
  refine ziX _ fun i j hij hj=>?_
  have:=hs i j (Nat.zero_le _) hij (by simpa [hsz] using hj)
  rw[zfz] at this
  simpa using this
 ·
  have hj:j<d'.size:=by
   have:=(List.getElem?_eq_some_iff.1 hu).1
   simpa using this
  have hh:=holds_sortWorld WV.val w g 0 n ps.toArray d' os hgl hH (by simpa using hp1) j hj
  rw[hh.1]
  rw[List.getElem?_map] at hu
  rw[←hu,getElem!_pos d' j hj]
  simp[hj]
theorem znS (a:Option Addr)(c:Nat)(fv:Value)(w:World) :
  Calls Tryz.prog 145 #[.slice a 0 c,.int .i64 0,.int .i64 0,fv] w fun e w'=>e= .returned (.tuple #[])∧w=w':=by
 go_enter Tryz.func145,Tryz.ntmps145
 go_wp2
 refine wp_loop_rounds 1 ?_
 rw[rounds_succ]
 go_wp2
 go_end0
 exact⟨rfl,rfl⟩
theorem zsH (a:Option Addr)(c:Nat)(lim:Int)(fv:Value)(w:World) :
  Calls Tryz.prog 97 #[.slice a 0 c,.int .i64 0,.int .i64 0,.int .i64 lim,fv] w fun e w'=>e= .returned (.tuple #[])∧w=w':=by
 go_enter Tryz.func97,Tryz.ntmps97
 go_wp2
 refine wp_loop_rounds 1 ?_
 rw[rounds_succ]
 go_wp2_with (go_at_call 145;refine (znS _ _ _ _).mono ?_;rintro e w' ⟨rfl,rfl⟩)
 (try simp only[Exit.inBlock,Exit.then]);refine bodyPost_ret (results_none rfl _ _ _) rfl ?_
 exact⟨rfl,rfl⟩
theorem zrF (a:Option Addr)(c:Nat)(F:Nat)(w:World) :
  Calls Tryz.prog 60 #[.slice a 0 c,.func (.func F) #[] #[]] w fun e w'=>e= .returned (.tuple #[])∧w=w':=by
 go_enter Tryz.func60,Tryz.ntmps60
 go_wp2_with (first|(go_at_call 98;refine (Tryz.bits_Len 0 _ (by omega) (by omega)).mono ?_;rintro e w' ⟨rfl,rfl⟩)|(go_at_call 97;refine (zsH _ _ _ _ _).mono ?_;rintro e w' ⟨rfl,rfl⟩))
 go_end0
 exact⟨rfl,rfl⟩
theorem zlB {w0 w:World}{base:Nat}{v:Value}(ps:List (WV w0))(hO:zhg w base v (ps.map WV.val))(hbase:w0.heap.size≤base)(hb:Go.RowKit.Below w0.heap.size w0 w)(hlen:ps.length≤1099511627776) :
  Calls Tryz.prog 60 #[v,.func (.func 61) #[] #[]] w fun e w'=>e= .returned (.tuple #[]) ∧
   ∃ ps':List (WV w0),ps'.Perm ps∧(ps'.map WV.way).Pairwise (fun a b=>ltW b a=false)∧Seg w' v 1 ps'.length (ps'.map WV.val)∧Go.RowKit.Below w0.heap.size w0 w':=by
 by_cases hne:ps=[]
 ·
  subst hne
  have hs:=zbQ hO (by simp)
  obtain⟨-,-,a,c,rfl,-⟩:=hs
  refine (zrF a c _ w).mono ?_
  rintro e w' ⟨rfl,rfl⟩
  exact⟨rfl,[],List.Perm.refl _,by simp,zbQ hO (by simp),hb⟩
 ·
  exact zrE ps hne hO hbase hb hlen
end
section
open Go.RowKit
theorem zoU {w:World}:∀ (rows:List (List Value)) (ls:List (List Int)),rows.length=ls.length→(∀ (i:Nat) (r:List Value) (x:List Int),rows[i]?=some r→ls[i]?=some x→zjt w r x) →
  ∃ ps:List (WV w),ps.map WV.way=ls∧ps.map WV.val=rows.flatten
 | [],[],_,_=>⟨[],rfl,rfl⟩
 | [],_::_,h,_=>by simp at h
 | _::_,[],h,_=>by simp at h
 | r::rows,x::ls,h,hp=>by
  obtain⟨v,rfl,hI⟩:=hp 0 r x rfl rfl
  obtain⟨ps,h1,h2⟩:=zoU rows ls (by simpa using h) fun i r x hr hx=>hp (i+1) r x (by simpa using hr) (by simpa using hx)
  exact⟨WV.mk v x hI::ps,by rw[List.map_cons,h1,WV.way_mk],by rw[List.map_cons,h2,WV.val_mk];rfl⟩
theorem zca.pairs {w:World}{v:Value}{ls:List (List Int)}(h:zca w v ls):∃ ps:List (WV w),ps.map WV.way=ls∧Seg w v 1 ps.length (ps.map WV.val):=by
 obtain⟨rows,h1,-,h3,h4⟩:=h
 obtain⟨ps,e1,e2⟩:=zoU rows ls h1 h4
 have e3:ps.length=ls.length:=by rw[←e1,List.length_map]
 exact⟨ps,e1,by rw[e2,e3];exact h3⟩
theorem znT {w:World}(ps:List (WV w)):∀ u∈ps.map WV.val,u.oneCell'=true:=by
 intro u hu
 obtain⟨p,-,rfl⟩:=List.mem_map.1 hu
 exact p.one
theorem seg_wv {w0 w:World}{v:Value}{ps:List (WV w0)}(h:Seg w v 1 ps.length (ps.map WV.val)):∃ a cap,v= .slice a ps.length cap∧∀ k (p:WV w0),ps[k]?=some p→∃ b o a2 c2,a=some ⟨b,o,none⟩∧w.cell? ⟨b,o+k,none⟩=some (.slice a2 p.way.length c2)∧za1 w0 (.slice a2 p.way.length c2) p.way:=by
 obtain⟨-,-,a,cap,hv,-,-,-,hc⟩:=h
 refine⟨a,cap,hv,fun k p hk=>?_⟩
 obtain⟨b,o,ha,hcell⟩:=hc k p.val (by simp[hk])
 have hI:=p.2
 have hI':=hI
 obtain⟨-,a2,c2,hv2,-,-⟩:=hI'.open
 refine⟨b,o,a2,c2,ha,?_,?_⟩
 ·
  rw[hcell];exact congrArg some hv2
 ·
  show za1 w0 (.slice a2 p.1.2.length c2) p.1.2
  rw[←hv2];exact hI
theorem zks {o:List (List Int)}{w:List Int}{r:List (List Int)}(h:w=[]∨(∃ u,o.getLast?=some u∧u <+: w)):zdU o (w::r)=zdU o r:=by rw[zdU,if_pos h]
theorem zkt {o:List (List Int)}{w:List Int}{r:List (List Int)}(h:¬ (w=[]∨(∃ u,o.getLast?=some u∧u <+: w))):zdU o (w::r)=zdU (o++[w]) r:=by rw[zdU,if_neg h]
theorem zoV {w:World}{base:Nat}{v:Value}{l:List Int}(h:za8 w base v l):v.oneCell'=true:=by
 obtain⟨a,c,rfl⟩:=h.form
 rfl
theorem za8.apart {w:World}{n0 base:Nat}{v:Value}{l:List Int}(h:za8 w base v l)(hn:l.length≤140737488355328)(hl:∀ x∈l,zcS x):zc8 n0 base w (fun w'=>zjt w' [v] l):=fun _ hw' =>
 ⟨v,rfl,za8.ints (zaL h fun b _ hb he=>hw' b (Array.getElem?_eq_some_iff.1 he).1 (.inr hb)) hn hl⟩
def zoW (ls:List (List Int)):Prop:=ls.length≤1099511627776∧∀ l∈ls,l.length≤17592186044416
def zdH (w w':World)(v:Value)(o:List (List Int)):Prop:=o.length≤1099511627776∧∃ base,w.heap.size≤base∧zaf zjt 50 1 0 base w' v o
theorem zdH.here {w w':World}{v:Value}{o:List (List Int)}(h:zdH w w' v o):zca w' v o:=by
 obtain⟨hl,base,-,h⟩:=h
 exact h.at (by omega) fun _ _ _=>rfl
theorem zdH.later {w0 w w' w2:World}{v:Value}{o:List (List Int)}(h:zdH w w' v o)(h0:w0.heap.size≤w.heap.size)(hs:w'.heap.size≤w2.heap.size)(hw:∀ b,w.heap.size≤b→b<w'.heap.size→w2.heap[b]?=w'.heap[b]?):zdH w0 w2 v o:=by
 obtain⟨hl,base,hb,h⟩:=h
 refine⟨hl,base,Nat.le_trans h0 hb,h.later (fun b h1 h2=>hw b (by omega) h1) hs⟩
def zgI (w:World)(o:List (List Int))(e:Ending)(w':World):Prop:=∃ v',e= .returned (zbF v')∧zdH w w' v' o∧Below w.heap.size w w'
theorem zrG {w:World}{v:Value}{ls:List (List Int)}(h:zca w v ls)(hL:zoW ls) :
  Calls Tryz.prog 30 #[v] w (zgI w (mOf ls)):=by
 have hA:Below w.heap.size w (w.alloc (.cells #[.slice none 0 0] 33)):=(Below.refl _ _).alloc (Nat.le_refl _) _
 obtain⟨wA,HA⟩:∃ wA,Hid (wA=w.alloc (.cells #[.slice none 0 0] 33)):=⟨_,rfl⟩
 have HBX:Hid (Blk wA w.heap.size [.slice none 0 0] 33):=by rw[HA.out];exact Blk.new w [.slice none 0 0] _
 rw[←HA.out] at hA
 have HSZ:Hid (wA.heap.size=w.heap.size+1):=by rw[HA.out];simp[Hid]
 obtain⟨ps,e1,hseg⟩:=(h.below hA).pairs
 have HWA:=hid hA
 have HL:=hid hL
 have hpl:ps.length=ls.length:=by rw[←e1,List.length_map]
 have HCL:=hid (zpS (w:=wA) (vs:=ps.map WV.val) (by rw[List.length_map];exact hseg) (znT ps) (by rw[List.length_map,hpl];exact hL.1))
 obtain⟨-,a,c,rfl,-,-⟩:=h.open
 obtain⟨n,HN⟩:∃ n,Hid (n=ls.length):=⟨_,rfl⟩
 rw[←HN.out] at HCL ⊢
 obtain⟨Q,HQ⟩:∃ Q:Ending→World→Prop,Hid (Q=zgI w (mOf ls)):=⟨_,rfl⟩
 rw[←HQ.out]
 have HE:=hid e1
 have HPL:=hid hpl
 clear h hA hL e1 hseg hpl
 go_enter Tryz.func30,Tryz.ntmps30
 go_wp2_with fail
 rw[←HA.out]
 refine HCL.out.mono ?_
 rintro e w1 ⟨v1,rfl,hO,hB1⟩
 have HSORT:=hid (zlB ps hO (Nat.le_refl _) hB1 (by rw[HPL.out];exact HL.out.1))
 have HB1:=hid hB1
 have hv1:=zbQ hO (by rw[List.length_map,HPL.out];have:=HL.out.1;omega)
 obtain⟨-,-,a1,c1,rfl,-⟩:=hv1
 have hvn:(ps.map WV.val).length=n:=by rw[List.length_map,HPL.out,HN.out]
 rw[hvn] at HSORT ⊢
 clear hO hB1 hvn
 go_wp2_with fail
 refine HSORT.out.mono ?_
 rintro e w2 ⟨rfl,ps',hperm,hpw,hseg,hB2⟩
 have hps:ps'.length=n:=by rw[hperm.length_eq,HPL.out,HN.out]
 rw[hps] at hseg
 have HSEG:=hid hseg
 obtain⟨s,HS⟩:∃ s,Hid (s=ps'.map WV.way):=⟨_,rfl⟩
 have HGET:Hid (∀ k (x:List Int),s[k]?=some x→∃ b o a2 c2,a1=some ⟨b,o,none⟩∧w2.cell? ⟨b,o+k,none⟩=some (.slice a2 x.length c2)∧za1 wA (.slice a2 x.length c2) x∧x.length≤17592186044416):=by
  obtain⟨a3,c3,hv3,hc3⟩:=seg_wv (ps:=ps') (by rw[hps];exact hseg)
  cases hv3
  intro k x hx
  rw[HS.out,List.getElem?_map] at hx
  obtain⟨p,hp,rfl⟩:=Option.map_eq_some_iff.1 hx
  obtain⟨b,o,a2,c2,h1,h2,h3⟩:=hc3 k p hp
  refine⟨b,o,a2,c2,h1,h2,h3,HL.out.2 _ ?_⟩
  rw[←HE.out]
  exact List.mem_map.2 ⟨p,(hperm.mem_iff).1 (List.mem_of_getElem? hp),rfl⟩
 have HSN:Hid (n=s.length):=by rw[Hid,HS.out,List.length_map,hps]
 have HM:Hid (zdU [] s=mOf ls):=by
  refine zq7 (fun x=>?_) (by rw[HS.out];exact hpw)
  rw[HS.out,←HE.out]
  exact (hperm.map WV.way).mem_iff
 have HB2:=hid hB2
 have HW2:Hid (w.heap.size≤w2.heap.size):=by have:=hB2.size;have:=HSZ.out;show _≤_;omega
 have HNL:Hid (n≤1099511627776):=by rw[Hid,HN.out];exact HL.out.1
 have hn:=HNL.out
 clear hperm hpw hseg hB2 hps HSORT HCL
 go_wp2_with fail
 go_loopw [4,13] (fun v4 v13 wr=>∃ (k:Nat) (o:List (List Int)),v13= .int .i64 k∧k≤n∧Hid (zaf zjt 50 1 0 w2.heap.size wr v4 o∧o.length≤k∧zdU o (s.drop k)=mOf ls∧Below w2.heap.size w2 wr)) (fun _ v13 _=>n - (intOf v13).toNat)
 case atStart=>exact⟨0,[],rfl,by omega,zaf.nil _ _ _ _ _ _,by simp,HM.out,Below.refl _ _⟩
 case round =>
  obtain⟨k,o,rfl,hk,HI⟩:=hrel
  have hOF:=HI.out.1.form
  obtain⟨oa,oc,hoe⟩:=hOF
  obtain⟨j,HJ⟩:∃ j,Hid (j=o.length):=⟨_,rfl⟩
  rw[←HJ.out] at hoe
  subst hoe
  have hjk:j≤k:=by rw[HJ.out];exact HI.out.2.1
  by_cases hlt:k<n
  ·
   obtain⟨x,hx⟩:=zga HSN.out hlt
   obtain⟨b,q,xa,xc,ha,g0,hX,hxl⟩:=HGET.out k x hx
   replace g0:=zaa HI.out.2.2.2 _ _ g0
   have HXW:=hid ((hX.below HB2.out).below HI.out.2.2.2)
   have HXL:=hid hxl
   have hix:=zaj Tryz.underlying31 zcE ha k hlt (cap:=c1)
   have HD:=hid (zdC hx)
   obtain⟨m,HMM⟩:∃ m,Hid (m=x.length):=⟨_,rfl⟩
   rw[←HMM.out] at g0 HXW
   have HX64:=hid hX.2
   clear hx hX ha hxl
   by_cases hm:m=0
   ·
    subst hm
    have HSK:=hid (zks (o:=o) (w:=x) (r:=s.drop (k+1)) (.inl (List.length_eq_zero_iff.1 HMM.out.symm)))
    go_wp2_with fail
    go_roundw
    case rel=>exact⟨k+1,o,by go_num,hlt,HI.out.1,by have:=HI.out.2.1;omega,by rw[←HSK.out,←HD.out];exact HI.out.2.2.1,HI.out.2.2.2⟩
    case measure=>simp[intOf];omega
   ·
    have HXN:Hid (x≠[]):=fun e=>hm (by rw[HMM.out,e];rfl)
    have e1:((m:Int) == 0)=false:=by simp;omega
    have e2:(m == 0)=false:=by simp;omega
    have e3:decide ((m:Int)=0)=false:=by simp;omega
    by_cases hj:j=0
    ·
     subst hj
     have HO0:Hid (o=[]):=List.length_eq_zero_iff.1 HJ.out.symm
     have HTK:=hid (zkt (o:=o) (w:=x) (r:=s.drop (k+1)) (by rw[HO0.out];simp;exact HXN.out))
     go_wp2_with fail
     have hcl:=zj6 (HXW.out) HXL.out
     refine hcl.mono ?_
     clear hcl
     rintro e w4 ⟨v5,rfl,hO5,hB5⟩
     obtain⟨a5,c5,hv5⟩:=hO5.form
     rw[←HMM.out] at hv5
     subst hv5
     obtain⟨a',c',w6,hr,hO6,hB6,hB7⟩:=(HI.out.1).step hB5 (by decide) (Nat.zero_le _) HI.out.2.2.2.size HJ.out.symm (G:=Tryz.prog) 31 (.slice none 0 0) 24 zcW zfc rfl #[.slice a5 m c5] rfl (by intro u hu;simp at hu;subst hu;exact zoV hO5) x (hO5.apart (by have:=HXL.out;omega) HX64.out) (by have:=HNL.out;omega) (by decide)
     have HO6:=hid hO6
     have HB7:=hid hB7
     clear hO5 hB5 hO6 hB6 hB7
     go_wp2_with (at_builtin;refine zad rfl _ _ _ rfl _ _ rfl rfl hr ?_)
     go_roundw
     case rel=>exact⟨k+1,o++[x],by go_num,hlt,HO6.out,by rw[List.length_append];have:=HI.out.2.1;simp;omega,by rw[←HTK.out,←HD.out];exact HI.out.2.2.1,HI.out.2.2.2.trans HB7.out⟩
     case measure=>simp[intOf];omega
    ·
     have hj0:0<j:=by omega
     obtain⟨u,HU⟩:∃ u,Hid (o[j - 1]?=some u):=zga HJ.out (by omega)
     have HLAST:Hid (o.getLast?=some u):=by rw[Hid,List.getLast?_eq_getElem?,←HJ.out];exact HU.out
     have hWA:=zaf.at HI.out.1 (by have:=HI.out.2.1;have:=HNL.out;omega) (w':=wr) (fun _ _ _=>rfl)
     obtain⟨-,oa',oc',hoe,-,hoat⟩:=zca.open hWA
     rw[←HJ.out] at hoe
     cases hoe
     obtain⟨b2,q2,ua,uc,ha2,g2,hU⟩:=hoat (j - 1) u HU.out
     have hix2:=zaj Tryz.underlying31 zcE ha2 (j - 1) (by omega:j - 1<j) (cap:=oc)
     rw[show ((j - 1:Nat):Int)=(j:Int) - 1 by omega] at hix2
     have HUW:=hid hU
     obtain⟨um,HUM⟩:∃ um,Hid (um=u.length):=⟨_,rfl⟩
     rw[←HUM.out] at g2 HUW
     have hBEG:=zny HXW.out HUW.out
     obtain⟨y,HY⟩:∃ y,Hid (y=zey x u):=⟨_,rfl⟩
     rw[←HY.out] at hBEG
     have HBEG:=hid hBEG
     clear hBEG hWA hoat ha2 hU
     cases y with
     | true =>
      have HSK:=hid (zks (o:=o) (w:=x) (r:=s.drop (k+1)) (.inr ⟨u,HLAST.out,(zez _ _).1 HY.out.symm⟩))
      go_wp2_with (go_at_call 62;refine HBEG.out.mono ?_;rintro e w' ⟨rfl,hd⟩;have HDW:=hid hd.below;clear hd)
      go_roundw
      case rel=>exact⟨k+1,o,by go_num,hlt,HI.out.1.below HDW.out,by have:=HI.out.2.1;omega,by rw[←HSK.out,←HD.out];exact HI.out.2.2.1,zag HI.out.2.2.2 HDW.out HI.out.2.2.2.size⟩
      case measure=>simp[intOf];omega
     | false =>
      have HTK:=hid (zkt (o:=o) (w:=x) (r:=s.drop (k+1)) (by rintro (e|⟨u2,e,hp⟩);exact HXN.out e;rw[HLAST.out] at e;cases e;have:=(zez x u).2 hp;rw[←HY.out] at this;cases this))
      go_wp2_with (go_at_call 62;refine HBEG.out.mono ?_;rintro e w3 ⟨rfl,hd⟩;have HDW:=hid hd.below;clear hd)
      have hcl:=zj6 (HXW.out.below HDW.out) HXL.out
      refine hcl.mono ?_
      clear hcl
      rintro e w4 ⟨v5,rfl,hO5,hB5⟩
      obtain⟨a5,c5,hv5⟩:=hO5.form
      rw[←HMM.out] at hv5
      subst hv5
      obtain⟨a',c',w6,hr,hO6,hB6,hB7⟩:=(HI.out.1.below HDW.out).step hB5 (by decide) (Nat.zero_le _) (Nat.le_trans HI.out.2.2.2.size HDW.out.size) HJ.out.symm (G:=Tryz.prog) 31 (.slice none 0 0) 24 zcW zfc rfl #[.slice a5 m c5] rfl (by intro u hu;simp at hu;subst hu;exact zoV hO5) x (hO5.apart (by have:=HXL.out;omega) HX64.out) (by have:=HNL.out;omega) (by decide)
      have HO6:=hid hO6
      have HB7:=hid hB7
      clear hO5 hB5 hO6 hB6 hB7
      go_wp2_with (at_builtin;refine zad rfl _ _ _ rfl _ _ rfl rfl hr ?_)
      go_roundw
      case rel=>exact⟨k+1,o++[x],by go_num,hlt,HO6.out,by rw[List.length_append];have:=HI.out.2.1;simp;omega,by rw[←HTK.out,←HD.out];exact HI.out.2.2.1,(zag HI.out.2.2.2 HDW.out HI.out.2.2.2.size).trans HB7.out⟩
      case measure=>simp[intOf];omega
  ·
   obtain rfl:k=n:=by omega
   have HEN:Hid (o=mOf ls):=by
    have:=HI.out.2.2.1
    rw[List.drop_eq_nil_of_le (by rw[←HSN.out];omega)] at this
    exact this
   have HBX2:=hid ((HBX.out.below HB2.out).below HI.out.2.2.2)
   have c0:=HBX2.out.cell 0 _ rfl
   have f0:=HBX2.out.free 0
   have hsz:=HBX2.out.lt
   have HFIN:Hid (zgI w (mOf ls) (.returned (zbF (.slice oa j oc))) (wr.setCell ⟨w.heap.size,0,none⟩ (.slice oa j oc))):=by
    have hw2:w.heap.size+1≤w2.heap.size:=by have:=HB2.out.size;have:=HSZ.out;omega
    refine⟨_,rfl,?_,?_⟩
    ·
     rw[←HEN.out]
     refine⟨by rw[←HJ.out];have:=HNL.out;omega,w2.heap.size,by omega,?_⟩
     exact HI.out.1.later (fun b hb hc=>Below.heap_setCell _ _ _ _ (by show b≠w.heap.size;omega)) (by simp)
    ·
     have h1:Below w.heap.size w w2:=HWA.out.trans (HB2.out.mono (by have:=HSZ.out;omega))
     exact (h1.trans (HI.out.2.2.2.mono (by omega))).setCell (Nat.le_refl _) _
   have HCS:Hid ((wr.setCell ⟨w.heap.size,0,none⟩ (.slice oa j oc)).cell? ⟨w.heap.size,0,none⟩=some (.slice oa j oc)):=World.cell?_setCell_same' _ _ _ (by rw[c0];rfl)
   clear hlt
   go_wp2_with fail
   rw[HQ.out]
   refine bodyPost_ret (v:=zbF (.slice oa j oc)) (by simp[results,Tryz.results30,go_sem,zbF,HCS.out]) rfl HFIN.out
end
section
open Go.RowKit
theorem znU (wr:World)(n:Int):za8 (wr.alloc (.cells #[.int .i64 n] 3)) wr.heap.size (.slice (some ⟨wr.heap.size,0,none⟩) 1 1) [n]:=
 World.ownsRow_lit wr #[.int .i64 n] 1 (Nat.le_refl _) (by decide) rfl
theorem zsI {wr w1:World}{base on:Nat}{oa:Option Addr}{oc:Nat}{o:List (List Int)}(h:zaf zjt 50 1 0 base wr (.slice oa on oc) o)(ho:o.length=on)(hbs:base≤wr.heap.size)(hl:on≤1099511627776)
  (hb:Below wr.heap.size wr w1) {a6:Option Addr} {n6 c6:Nat} {t:List Int} (ht:za8 w1 wr.heap.size (.slice a6 n6 c6) t) (htl:t.length≤140737488355328) (h64:∀ x∈t,zcS x) :
  ∃ a' c' w5,(Builtin.append_ #[31,31] 31 #[.slice oa on oc,.slice (some ⟨w1.heap.size,0,none⟩) 1 1]).run Tryz.prog (w1.alloc (.cells #[.slice a6 n6 c6] 50))= .ok (.slice a' (on+1) c') w5 ∧
   zaf zjt 50 1 0 base w5 (.slice a' (on+1) c') (o++[t])∧Below base wr w5:=by
 obtain⟨a',c',w6,hr,hO6,-,hB7⟩:=h.step hb (by decide) (Nat.zero_le _) hbs ho (G:=Tryz.prog) 31 (.slice none 0 0) 24 zcW zfc rfl #[.slice a6 n6 c6] rfl (by intro u hu;simp at hu;subst hu;rfl) t (ht.apart htl h64) hl (by decide)
 exact⟨a',c',w6,hr,hO6,hB7⟩
theorem ziY {wr:World}{base on:Nat}{oa:Option Addr}{oc:Nat}{o:List (List Int)}(h:zaf zjt 50 1 0 base wr (.slice oa on oc) o)(ho:o.length=on)(hbs:base≤wr.heap.size)(hl:on≤1099511627776){n:Int}(hn:zcS n) :
  ∃ a' c' w5,(Builtin.append_ #[31,31] 31 #[.slice oa on oc,.slice (some ⟨wr.heap.size+1,0,none⟩) 1 1]).run Tryz.prog ((wr.alloc (.cells #[.int .i64 n] 3)).alloc (.cells #[.slice (some ⟨wr.heap.size,0,none⟩) 1 1] 50))= .ok (.slice a' (on+1) c') w5 ∧
   zaf zjt 50 1 0 base w5 (.slice a' (on+1) c') (o++[[n]])∧Below base wr w5:=by
 have h1:=zsI h ho hbs hl (w1:=wr.alloc (.cells #[.int .i64 n] 3)) ((Below.refl _ _).alloc (Nat.le_refl _) _) (znU wr n) (by simp) (by simpa using hn)
 rw[World.size_alloc] at h1
 exact h1
structure WayI (base Z0 Z1:Nat)(w10 wx:World)(v:Value)(o:List (List Int)):Prop where
 rows:zaf zjt 50 1 0 base wx v o
 size:Z1≤wx.heap.size
 own:∀ b,v.ownBlock=some b→b<Z0∨Z1≤b
 same:∀ b,Z0≤b→b<Z1→wx.heap[b]?=w10.heap[b]?
theorem WayI.more {wr w10:World}{base Z0 Z1 on:Nat}{oa:Option Addr}{oc:Nat}{o:List (List Int)}(h:WayI base Z0 Z1 w10 wr (.slice oa on oc) o)(ho:o.length=on)(hbs:base≤wr.heap.size)(hl:on≤1099511627776){n:Int}(hn:zcS n)
  {wa:Option Addr} {wn wc:Nat} {t:List Int} (hw:za1 wr (.slice wa wn wc) t) (ht:t.length≤1099511627776) :
  ∃ a6 n6 c6 w6,(Builtin.append_ #[50,50] 50 #[.slice (some ⟨wr.heap.size,0,none⟩) 1 1,.slice wa wn wc]).run Tryz.prog (wr.alloc (.cells #[.int .i64 n] 3))= .ok (.slice a6 n6 c6) w6 ∧
   ∃ a' c' w7,(Builtin.append_ #[31,31] 31 #[.slice oa on oc,.slice (some ⟨w6.heap.size,0,none⟩) 1 1]).run Tryz.prog (w6.alloc (.cells #[.slice a6 n6 c6] 50))= .ok (.slice a' (on+1) c') w7 ∧
    WayI base Z0 Z1 w10 w7 (.slice a' (on+1) c') (o++[n::t])∧Below base wr w7:=by
 have hb1:Below wr.heap.size wr (wr.alloc (.cells #[.int .i64 n] 3)):=(Below.refl _ _).alloc (Nat.le_refl _) _
 obtain⟨v6,w6,hr6,hO6,hg6,-⟩:=zf7 (znU wr n) (hw.keep (zaa hb1)) (by simp;omega) hb1.size
 have hb6:Below wr.heap.size wr w6:=hb1.grown hg6 hb1.size fun q e=>(World.ownsRow.lt (znU wr n) q e).1
 obtain⟨a6,c6,rfl⟩:=hO6.form
 have hap:=hO6.apart (n0:=0) (by simp;omega) (by
  intro x hx
  rcases List.mem_append.1 hx with h|h
  ·
   rw[List.mem_singleton.1 h];exact hn
  ·
   exact hw.2 x h)
 have hr6':=h.rows.below hb6
 have hlt:∀ b,(Value.slice oa on oc).ownBlock=some b→b<wr.heap.size:=fun b e=>(h.rows.own b e).2
 obtain⟨a',c',w7,hr7,hO7,hB7,hg7,hat⟩:=hr6'.step' (by decide) (Nat.le_trans hbs hb6.size) ho (G:=Tryz.prog) 31 (.slice none 0 0) 24 zcW zfc rfl #[.slice a6 ([n]++t).length c6] rfl (by intro u hu;simp at hu;subst hu;rfl) (n::t)
  (fun w' hw'=>hap w' fun b hb hc=>hw' b hb (fun e=>by have:=hlt b e;omega) (.inr (Nat.le_trans hbs (by omega)))) hl (by decide)
 refine⟨a6,_,c6,w6,hr6,a',c',w7,hr7,⟨hO7,Nat.le_trans h.size (Nat.le_trans hb6.size hB7.size),fun b e=>?_,fun b h0 h1=>?_⟩,(hb6.mono hbs).trans hB7⟩
 ·
  rcases hat with e2|e2
  ·
   exact h.own b (by rw[←e2];exact e)
  ·
   rw[e2] at e
   have:=hb6.size
   have:=h.size
   simp at e
   omega
 ·
  have h2:b<wr.heap.size:=Nat.lt_of_lt_of_le h1 h.size
  refine ((hg7.block b (by have:=hb6.size;simp;omega) (fun e=>?_)).trans (Below.heap_alloc w6 _ b (by have:=hb6.size;omega))).trans ((hb6.block b h2).trans (h.same b h0 h1))
  have:=h.own b e.symm
  omega
end
section
open Go.RowKit
variable {P:Program} {ops:Array Oper} {md:Region.Mode} {w:World} {V X:World→Prop} {g:Nat} {Q:Exit→Act→World→Prop}
def znV (md:Region.Mode)(ops:Array Oper)(g:Nat):List (Nat × Nat)→Array Bool→Bool
 | [],listed=>(Region.ready md ops listed).isEmpty
 | t::ts,listed=>(match t.2 with
   | 0=>Region.free md ops listed t.1&&(Region.ready md ops listed).contains t.1 && !(t.1 == g)&&((ops[t.1]?).map fun o=>o.guard.isNone).getD false
   | 1=>Region.free md ops listed t.1&&(Region.ready md ops listed).contains t.1 && !(t.1 == g)&&((ops[t.1]?).map fun o=>o.guard.isNone).getD false&&zkf md ops 60 t.1 g
   | _=>decide (Region.ready md ops listed=[t.1])&&(listed.setIfInBounds t.1 true).getD g false)&&znV md ops g ts (listed.setIfInBounds t.1 true)
theorem znW (hsel:Region.noSelect ops=true)(hQ:∀ c (a:Act) dst v w,Q (.panic c) (a.put dst v) w→Q (.panic c) a w)(ts:List (Nat × Nat)):∀ (os:List Oper) (listed:Array Bool) (a:Act) (w:World),
  os.map some=ts.map (fun t=>ops[t.1]?)→zb5 md ops listed→znV md ops g ts listed=true→V w→(listed.getD g false=false→X w)→zoL P ops Q V X (ts.map (·.2)) os a w →
  zbV P md ops Q V X g ts.length listed a w:=by
 induction ts with
 | nil =>
  intro os listed a w hl _ hB _ _ h
  cases os with
  | nil=>exact⟨by simpa [znV] using hB,h⟩
  | cons o os=>simp at hl
 | cons t ts ih =>
  intro os listed a w hl hc hB hV hX h
  cases os with
  | nil=>simp at hl
  | cons o os =>
   rw[List.map_cons,List.map_cons] at hl
   obtain⟨hi0,hl'⟩:=List.cons.inj hl
   clear hl
   obtain⟨k,tag⟩:=t
   have hi:ops[k]?=some o:=hi0.symm
   clear hi0
   rw[List.length_cons]
   rw[List.map_cons] at h
   simp only at h
   rcases tag with _|_|n
   ·
    obtain⟨v,hy,h⟩:=h
    unfold znV at hB
    obtain⟨hB1,hB2⟩:=(Bool.and_eq_true _ _).mp hB
    simp only[Bool.and_eq_true,Bool.not_eq_true',beq_eq_false_iff_ne] at hB1
    obtain⟨⟨⟨h3,h4⟩,h5⟩,h6⟩:=hB1
    have h4':k∈Region.ready md ops listed:=List.contains_iff_mem.1 h4
    rw[hi] at h6
    refine zbW hi (Region.noSelect_spec hsel) (fun c a w h=>hQ c _ _ _ w h) h5 V (fun _ _ _ _ hA=>hA.1) ts.length listed a w hc (Region.free_spec hi h3) h4' (Or.inl ⟨zbX h6,hy⟩) ⟨hV,hX⟩ ?_
    exact ih os _ _ w hl' (hc.set h4') hB2 hV (fun h0=>hX (by rw[getD_set_ne false h5] at h0;exact h0)) h
   ·
    obtain⟨v,hy,h⟩:=h
    unfold znV at hB
    obtain⟨hB1,hB2⟩:=(Bool.and_eq_true _ _).mp hB
    simp only[Bool.and_eq_true,Bool.not_eq_true',beq_eq_false_iff_ne] at hB1
    obtain⟨⟨⟨⟨h3,h4⟩,h5⟩,h6⟩,h8⟩:=hB1
    have h4':k∈Region.ready md ops listed:=List.contains_iff_mem.1 h4
    rw[hi] at h6
    refine zbW hi (Region.noSelect_spec hsel) (fun c a w h=>hQ c _ _ _ w h) h5 X (fun _ _ hc hl hA=>hA.2 (zfw hc 60 k g h8 hl).2) ts.length listed a w hc (Region.free_spec hi h3) h4' (Or.inl ⟨zbX h6,hy⟩) ⟨hV,hX⟩ ?_
    exact ih os _ _ w hl' (hc.set h4') hB2 hV (fun h0=>hX (by rw[getD_set_ne false h5] at h0;exact h0)) h
   ·
    unfold znV at hB
    obtain⟨hB1,hB2⟩:=(Bool.and_eq_true _ _).mp hB
    obtain⟨h3,h4⟩:=(Bool.and_eq_true _ _).mp hB1
    replace h3:=of_decide_eq_true h3
    have h4':k∈Region.ready md ops listed:=by rw[h3];exact List.mem_singleton.2 rfl
    refine zhb h3 hi h4 fun K HK=>h K (hid fun a' w' hV' hK=>HK.out a' w' hV' fun hV''=>?_)
    exact ih os _ a' w' hl' (hc.set h4') hB2 hV'' (fun h0=>by rw[h4] at h0;cases h0) (hK hV'')
theorem ztu {l:List Oper}:∀ ts:List (Nat × Nat),(ts.all fun t=>decide (t.1<l.length))=true→(ts.filterMap fun t=>l[t.1]?).map some=ts.map fun t=>l.toArray[t.1]?
 | [],_=>rfl
 | t::ts,h=>by
  rw[List.all_cons,Bool.and_eq_true] at h
  have h1:t.1<l.length:=of_decide_eq_true h.1
  have h2:l[t.1]?=some (l[t.1]'h1):=List.getElem?_eq_getElem h1
  rw[List.filterMap_cons,h2]
  simp only[List.map_cons]
  rw[ztu ts h.2,List.getElem?_toArray,h2]
theorem zd3 {id:Nat}{l:List Oper}{a:Act}{w:World}(V X:World→Prop)(g:Nat)(ts:List (Nat × Nat))(hm:P.follows .mixedOrders=true)(hlen:ts.length=l.length)
  (hin:(ts.all fun t=>decide (t.1<l.length))=true) (hB:(Region.noSelect l.toArray&&znV .any l.toArray g ts (Array.replicate l.length false))=true) (hQ:∀ c (a:Act) dst v w,Q (.panic c) (a.put dst v) w→Q (.panic c) a w)
  (hV:V w.drew) (hX:X w.drew) (h0:∀ ops',Hid (ops'=l.toArray)→zoL P ops' Q V X (ts.map (·.2)) (ts.filterMap fun t=>l[t.1]?) a w.drew):(Code.region id l.toArray true).wp P Q a w:=by
 have h:=h0 l.toArray (hid rfl)
 rw[Bool.and_eq_true] at hB
 refine wp_region_any hm (zfx (V:=V) (X:=X) (g:=g) _ _ _ _ ?_)
 have:=znW (md:=.any) (Q:=Q) (V:=V) (X:=X) (P:=P) (g:=g) hB.1 hQ ts _ (Array.replicate l.length false) a w.drew (ztu ts hin) (fun j oj _ hl=>by
  rw[Array.getD_eq_getD_getElem?,Array.getElem?_replicate] at hl
  split at hl <;> cases hl) hB.2 hV (fun _=>hX) h
 rw[hlen] at this
 have e:l.toArray.size=l.length:=by simp
 rw[e]
 exact this
end
end Go.Proofs.YtpckoeicbjfnhaaGreatDoor
