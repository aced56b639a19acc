/- Parts of a proof: texts of the author, merged. No condition of their own. -/
import Derived.Test.YtpckoeicbjfnhaaGreatDoorZ12
import Derived.Test.YtpckoeicbjfnhaaGreatDoorZ13
import Derived.Deep.RegionLaw
namespace Go.Proofs.YtpckoeicbjfnhaaGreatDoor
set_option maxRecDepth 100000
set_option maxHeartbeats 16000000
section
open Go.RowKit Go.Shelf
def OfOk (w0:World)(d:Nat):Prop:=∀ (w:World) (v:Value) (x:M d),zan d w0 v x→Below w0.heap.size w0 w→mwt d x≤1099511627776 →
 Calls Tryz.prog 11 #[v] w fun e w'=>∃ v',e= .returned v'∧Below w.heap.size w w'∧zej w0.heap.size w.heap.size w' fun w2=>zan d w2 v' x
def SubP (d:Nat)(w:World)(r:List Value)(x:M d):Prop:=zan d w (.agg r.toArray) x
def zgi (d:Nat)(w:World)(r:List Value)(x:Val (M d)):Prop:=zbD (zan d) w (.agg r.toArray) x
theorem zoY:(Tryz.prog.info? 39).map (fun i=>(i.zero,i.size,i.bytes))=some (some (.agg #[.slice none 0 0,.slice none 0 0]),2,48):=by kernel_rfl
theorem zoZ:(Tryz.prog.info? 64).map (fun i=>(i.zero,i.size,i.bytes))=some (some (.agg #[.int .i64 0,.slice none 0 0,.slice none 0 0,.slice none 0 0]),4,80):=by kernel_rfl
theorem znx {n base:Nat}{w0 w' w2:World}(hn:n=w0.heap.size)(hb:Below n w0 w')(h:∀ b,b<w'.heap.size→(b<n∨base≤b)→w2.heap[b]?=w'.heap[b]?):∀ p u,w0.cell? p=some u→w2.cell? p=some u:=by
 intro p u hu
 have hp:p.block<w0.heap.size:=World.block_lt_of_cell? w0 p hu
 have h1:=hb.size
 rw[World.cell?_of_block (h p.block (by omega) (.inl (by omega))),World.cell?_of_block (hb.block p.block (by omega))]
 exact hu
theorem news3 (w:World)(c1 c2 c3:List Value)(T1 T2 T3:TypeId) :
  Blk (((w.alloc (.cells c1.toArray T1)).alloc (.cells c2.toArray T2)).alloc (.cells c3.toArray T3)) w.heap.size c1 T1 ∧
  Blk (((w.alloc (.cells c1.toArray T1)).alloc (.cells c2.toArray T2)).alloc (.cells c3.toArray T3)) (w.heap.size+1) c2 T2 ∧
  Blk (((w.alloc (.cells c1.toArray T1)).alloc (.cells c2.toArray T2)).alloc (.cells c3.toArray T3)) (w.heap.size+1+1) c3 T3 ∧
  (((w.alloc (.cells c1.toArray T1)).alloc (.cells c2.toArray T2)).alloc (.cells c3.toArray T3)).heap.size=w.heap.size+1+1+1 ∧
  Below w.heap.size w (((w.alloc (.cells c1.toArray T1)).alloc (.cells c2.toArray T2)).alloc (.cells c3.toArray T3)):=by
 have e:∀ (w:World) (o:Obj),(w.alloc o).heap.size=w.heap.size+1:=fun w o=>by simp
 refine⟨((Blk.new w c1 T1).alloc _).alloc _,?_,?_,by rw[e,e,e],(((Below.refl _ _).alloc (Nat.le_refl _) _).alloc (by rw[e];omega) _).alloc (by rw[e,e];omega) _⟩
 ·
  have:=(Blk.new (w.alloc (.cells c1.toArray T1)) c2 T2).alloc (.cells c3.toArray T3)
  rw[e] at this
  exact this
 ·
  have:=Blk.new ((w.alloc (.cells c1.toArray T1)).alloc (.cells c2.toArray T2)) c3 T3
  rw[e,e] at this
  exact this
theorem zan.form:∀ {d:Nat} {w:World} {v:Value} {x:M d},zan d w v x→∃ a1 n1 c1 a2 n2 c2,v= .agg #[.slice a1 n1 c1,.slice a2 n2 c2]
 | 0,_,_,_,h=>h.elim
 | d+1,_,_,_,h=>by
  obtain⟨vv,uv,rfl,hV,hU⟩:=h
  obtain⟨-,va,vc,rfl,-,-⟩:=hV.open
  obtain⟨-,ua,uc,rfl,-,-⟩:=hU.open
  exact⟨_,_,_,_,_,_,rfl⟩
theorem zrR:∀ {d:Nat} (x:M d),1≤mwt d x
 | 0,x=>x.elim
 | d+1,x=>by show 1≤1+_+_;omega
theorem zkJ {d':Nat}:∀ (l:List (M d')) (d:Nat),d=d'→l.length≤(l.map (mwt d')).sum
 | [],_,_=>by simp
 | x::t,d,h=>by
  have:=zkJ t d h
  have:=zrR x
  rw[List.map_cons,List.sum_cons,List.length_cons]
  omega
theorem zgU {w0:World}{d:Nat}(ih:OfOk w0 d){w:World}{v:Value}{x:Val (M d)}(h:zbD (zan d) w0 v x)(hb:Below w0.heap.size w0 w)(hw:vwt (mwt d) x≤1099511627776) :
  Calls Tryz.prog 33 #[v] w fun e w'=>∃ v',e= .returned v'∧Below w.heap.size w w'∧zej w0.heap.size w.heap.size w' fun w2=>zbD (zan d) w2 v' x:=by
 obtain⟨wv,tv,sv,rfl,hnum,hW,hT,hS⟩:=h
 have HFIN:Hid (∀ w2,(∀ p u,w0.cell? p=some u→w2.cell? p=some u)→∀ so,zef (zan d) w2 so x.subs→zbD (zan d) w2 (.agg #[.int .i64 x.num,wv,tv,so]) x):=
  fun w2 hk so hso=>⟨wv,tv,so,rfl,hnum,hW.keep hk,hT.keep hk,hso⟩
 obtain⟨hwl,wa,wc,rfl,-,-⟩:=hW.open
 obtain⟨htl,ta,tc,rfl,-,-⟩:=hT.open
 obtain⟨hsl,sa,sc,rfl,-,hsa⟩:=hS.open
 have HW:=hid hw
 have HSA:=hid hsa
 unfold OfOk at ih
 have HIH:=hid ih
 have HB:=hid hb
 generalize x.words.length=wn at *
 generalize x.texts.length=tn at *
 obtain⟨sn,HSN⟩:∃ n,Hid (n=x.subs.length):=⟨_,rfl⟩
 rw[←HSN.out] at hsl ⊢
 generalize x.num=num at *
 clear hsa ih hW hT hS hw hb
 go_enter Tryz.func33,Tryz.ntmps33
 go_wp2_with fail
 obtain⟨B,HBB⟩:∃ B,Hid (B=w.heap.size):=⟨_,rfl⟩
 have h3:=news3 w [.int .i64 num,.slice wa wn wc,.slice ta tn tc,.slice sa sn sc] [.int .i64 0,.slice none 0 0,.slice none 0 0,.slice none 0 0] [.int .i64 num,.slice wa wn wc,.slice ta tn tc,.slice none 0 0] 81 64 64
 generalize hW1:((w.alloc (.cells #[.int .i64 num,.slice wa wn wc,.slice ta tn tc,.slice sa sn sc] 81)).alloc (.cells #[.int .i64 0,.slice none 0 0,.slice none 0 0,.slice none 0 0] 64)).alloc (.cells #[.int .i64 num,.slice wa wn wc,.slice ta tn tc,.slice none 0 0] 64)=W1 at h3 ⊢
 clear hW1
 rw[←HBB.out] at h3 ⊢
 obtain⟨hx1,hr1,ho1,hz1,hb1⟩:=h3
 have HX1:=hid hx1
 have HR1:=hid hr1
 have HO1:=hid ho1
 have HZ1:=hid hz1
 have HB1:=hid hb1
 clear hx1 hr1 ho1 hz1 hb1
 have HN0:Hid (w0.heap.size≤B):=by rw[HBB.out];exact HB.out.size
 have HBB0:Hid (Below w0.heap.size w0 w):=HB
 go_loopw [4] (fun v4 wr=>∃ (i:Nat) (oa:Option Addr) (oc:Nat),v4= .int .i64 i∧i≤sn∧Hid (Below B w wr∧B+1+1<wr.heap.size∧Blk wr B [.int .i64 num,.slice wa wn wc,.slice ta tn tc,.slice sa sn sc] 81∧Blk wr (B+1) [.int .i64 0,.slice none 0 0,.slice none 0 0,.slice none 0 0] 64∧Blk wr (B+1+1) [.int .i64 num,.slice wa wn wc,.slice ta tn tc,.slice oa i oc] 64∧zag (SubP d) 39 2 w0.heap.size (B+1+1+1) wr (.slice oa i oc) (x.subs.take i))) (fun v4 _=>sn - (intOf v4).toNat)
 case atStart =>
  exact⟨0,none,0,rfl,by omega,HB1.out,by rw[HZ1.out];omega,HX1.out,HR1.out,HO1.out,zag.nil _ _ _ _ _ _⟩
 case round =>
  obtain⟨i,oa,oc,rfl,hi,HI⟩:=hrel
  have c1:=HI.out.2.2.1.cell 3 _ rfl
  have hbl1:B<wr.heap.size:=HI.out.2.2.1.lt
  by_cases hlt:i<sn
  ·
   have hmi:x.subs[i]?=some (x.subs[i]'(by rw[←HSN.out];exact hlt)):=List.getElem?_eq_getElem _
   generalize x.subs[i]'(by rw[←HSN.out];exact hlt)=m at hmi
   have hsa:=HSA.out
   obtain⟨b,o,v1,v2,ha,g0,g1,hM⟩:=hsa i m hmi
   clear hsa
   have hb0:Below w0.heap.size w0 wr:=HB.out.trans (HI.out.1.mono HN0.out)
   have hBne:B+1+1≠B:=by omega
   have HBL0:Hid (b<B):=Nat.lt_of_lt_of_le (World.block_lt_of_cell? w0 _ g0) HN0.out
   have hkr:=zaa hb0
   replace g0:=hkr _ _ g0
   replace g1:=hkr _ _ g1
   have HM:=hid hM
   have HB0:=hid hb0
   have HMB:Hid (mwt d m≤1099511627776):=by
    have h1:=zba (mwt d) x.subs m (List.mem_of_getElem? hmi)
    have h2:=HW.out
    unfold vwt at h2
    show _≤_;omega
   have hix:=zae Tryz.underlying79 zdZ ha i hlt (cap:=sc)
   have hbl:b<wr.heap.size:=World.block_lt_of_cell? wr _ g0
   have c2:=HI.out.2.2.2.2.1.cell 3 _ rfl
   have hfz:=HI.out.2.2.2.2.1.free 3
   have hbl2:=HI.out.2.1
   have hbne:B+1+1≠b:=by have:=HBL0.out;omega
   clear ha hkr hM hb0
   have e0:wr.drew.cell? ⟨B+1+1,3,none⟩=some (.slice oa i oc):=c2
   have HC0:Hid (wr.drew.cell? ⟨B,3,none⟩=some (.slice sa sn sc)∧wr.drew.cell? ⟨b,o+i*2,none⟩=some v1∧wr.drew.cell? ⟨b,o+i*2+1,none⟩=some v2):=⟨c1,g0,g1⟩
   have k0:=HC0.out
   have HN3:Hid (w0.heap.size≤B+1+1+1):=by have:=HN0.out;show _≤_;omega
   have HTL:Hid ((x.subs.take i).length=i):=by rw[Hid,List.length_take,←HSN.out];omega
   have HLI:Hid (i≤1099511627776):=by
    have h1:=zkJ x.subs d rfl
    have h2:=HW.out
    unfold vwt at h2
    rw[←HSN.out] at h1
    show _≤_;omega
   go_wp2_with fail
   have HTA:Hid (x.subs.take (i+1)=x.subs.take i++[m]):=by rw[Hid,List.take_add_one,hmi];rfl
   have HQ:Hid (∀ (w5:World) (a5:Option Addr) (c5:Nat),Below (B+1+1+1) wr w5→zag (SubP d) 39 2 w0.heap.size (B+1+1+1) w5 (.slice a5 (i+1) c5) (x.subs.take i++[m]) →
     ∀ w6,w6=w5.setCell ⟨B+1+1,3,none⟩ (.slice a5 (i+1) c5)→(Below B w w6∧B+1+1<w6.heap.size∧Blk w6 B [.int .i64 num,.slice wa wn wc,.slice ta tn tc,.slice sa sn sc] 81∧Blk w6 (B+1) [.int .i64 0,.slice none 0 0,.slice none 0 0,.slice none 0 0] 64∧Blk w6 (B+1+1) [.int .i64 num,.slice wa wn wc,.slice ta tn tc,.slice a5 (i+1) c5] 64∧zag (SubP d) 39 2 w0.heap.size (B+1+1+1) w6 (.slice a5 (i+1) c5) (x.subs.take (i+1)))):=by
    rintro w5 a5 c5 h1 h2 w6 rfl
    refine⟨(HI.out.1.trans (h1.mono (by omega))).setCell (by show B≤B+1+1;omega) _,by have:=h1.size;simp;omega,?_,?_,?_,?_⟩
    ·
     exact Blk.set_other ((h1.block B (by omega)).trans HI.out.2.2.1) _ _ (by show B≠B+1+1;omega)
    ·
     exact Blk.set_other ((h1.block (B+1) (by omega)).trans HI.out.2.2.2.1) _ _ (by show B+1≠B+1+1;omega)
    ·
     exact Blk.set ((h1.block (B+1+1) (by omega)).trans HI.out.2.2.2.2.1) 3 _
    ·
     rw[HTA.out]
     refine h2.later (fun b' _ hc=>Below.heap_setCell w5 _ _ b' ?_) (by simp)
     show b'≠B+1+1
     have:=HN0.out
     omega
   have k01:=k0.1
   have k02:=k0.2.1
   have k03:=k0.2.2
   go_region_law (first|(go_simp;go_at_call 11;(with_reducible refine (HIH.out wr.drew _ m HM.out HB0.out.drew HMB.out).mono ?_);rintro e w1 ⟨vm,rfl,hbm,hap⟩;obtain⟨a1,n1,cc1,a2,n2,cc2,rfl⟩:=hap.here.form;have hk1:∀ p u,wr.drew.cell? p=some u→w1.cell? p=some u:=zaa hbm;have e1:w1.cell? ⟨B+1+1,3,none⟩=some (.slice oa i oc):=hk1 _ _ e0;have k1:w1.cell? ⟨B,3,none⟩=some (.slice sa sn sc)∧w1.cell? ⟨b,o+i*2,none⟩=some v1∧w1.cell? ⟨b,o+i*2+1,none⟩=some v2:=⟨hk1 _ _ k0.1,hk1 _ _ k0.2.1,hk1 _ _ k0.2.2⟩;obtain⟨a5,c5,w5,hr5,hO5,hB4,hB5⟩:=zag.step HI.out.2.2.2.2.2 ((Below.refl wr.heap.size wr).drew.trans hbm) (by decide) HN3.out HI.out.2.1 HTL.out 42 _ 48 Tryz.underlying42 zoY rfl #[.slice a1 n1 cc1,.slice a2 n2 cc2] rfl (by intro u hu;simp at hu;rcases hu with rfl|rfl <;> rfl) m hap HLI.out (by decide);have e5:w5.cell? ⟨B+1+1,3,none⟩=some (.slice oa i oc):=(hB5.cell (p:=⟨B+1+1,3,none⟩) (by show B+1+1<B+1+1+1;omega)).trans c2;have k3:w5.cell? ⟨B,3,none⟩=some (.slice sa sn sc)∧w5.cell? ⟨b,o+i*2,none⟩=some v1∧w5.cell? ⟨b,o+i*2+1,none⟩=some v2:=⟨(hB5.cell (p:=⟨B,3,none⟩) (by show B<B+1+1+1;omega)).trans c1,(hB5.cell (p:=⟨b,o+i*2,none⟩) (by show b<B+1+1+1;have:=HBL0.out;omega)).trans g0,(hB5.cell (p:=⟨b,o+i*2+1,none⟩) (by show b<B+1+1+1;have:=HBL0.out;omega)).trans g1⟩;have z3:w5.frozen? ⟨B+1+1,3,none⟩=false:=(hB5.frozen (p:=⟨B+1+1,3,none⟩) (by show B+1+1<B+1+1+1;omega)).trans hfz;have e4:=(hB4.cell (p:=⟨B+1+1,3,none⟩) (by show B+1+1<B+1+1+1;omega)).trans c2;have HR2:=hid hr5;have HO5:=hid hO5;have HB4:=hid hB4;have HB5:=hid hB5;clear hr5 hO5 hB4 hB5 hk1)|(refine za5 rfl (.tmp 20) (.tmp 27) _ rfl _ _ rfl rfl HR2.out ?_))
   all_goals
    go_wp2_with fail
    go_roundw
    case rel=>exact⟨i+1,_,_,by go_num,hlt,HQ.out _ _ _ HB5.out HO5.out _ rfl⟩
    case measure=>simp[intOf];omega
  ·
   obtain rfl:i=sn:=by omega
   have hO:=HI.out.2.2.2.2.1
   have hR:=HI.out.2.2.2.1
   have b0:=hO.cell 0 _ rfl
   have b1:=hO.cell 1 _ rfl
   have b2:=hO.cell 2 _ rfl
   have b3:=hO.cell 3 _ rfl
   have r0:=hR.cell 0 _ rfl
   have r1:=hR.cell 1 _ rfl
   have r2:=hR.cell 2 _ rfl
   have r3:=hR.cell 3 _ rfl
   have f0:=hR.free 0
   have f1:=hR.free 1
   have f2:=hR.free 2
   have f3:=hR.free 3
   have hlr:=hR.lt
   have hlo:=hO.lt
   have HLO:=hid hlo
   clear hO hR
   go_wp2_with fail
   refine bodyPost_ret (v:=.agg #[.int .i64 num,.slice wa wn wc,.slice ta tn tc,.slice oa i oc]) ?_ rfl ⟨_,rfl,?_,?_⟩
   ·
    simp[results,Tryz.results33,go_sem,r0,r1,r2,r3]
   ·
    have hBw:w.heap.size≤B+1:=by rw[←HBB.out];omega
    (with_reducible repeat first|exact Below.refl _ _|refine pzA ?_ _|refine pzB ?_ _|refine zab ?_ _|refine Below.drew ?_)
    rw[←HBB.out]
    exact HI.out.1
   ·
    intro w2 hw2
    have hag:∀ b',b'<wr.heap.size→(b'<w0.heap.size∨B+1+1+1≤b')→w2.heap[b']?=wr.heap[b']?:=by
     intro b' hlt' hc
     have hne:b'≠B+1:=by have:=HN0.out;omega
     refine (hw2 b' (by simpa using hlt') (hc.imp id fun h=>by rw[←HBB.out];omega)).trans ?_
     rw[Below.heap_setCell _ _ _ b' hne,Below.heap_setCell _ _ _ b' hne,Below.heap_setCell _ _ _ b' hne,Below.heap_setCell _ _ _ b' hne]
    have hsub:=HI.out.2.2.2.2.2.at (by rw[List.length_take];omega) hag
    rw[HSN.out,List.take_length] at hsub
    refine HFIN.out w2 (znx rfl (HBB0.out.trans (HI.out.1.mono HN0.out)) hag) _ ?_
    rw[HSN.out]
    exact hsub
end
section
open Go.RowKit Go.Shelf
theorem zqH:(Tryz.prog.info? 9).map (fun i=>(i.zero,i.size,i.bytes))=some (some (.string ⟨#[]⟩),1,16):=by kernel_rfl
theorem zny:Tryz.prog.underlying 25=some (.slice 9):=Tryz.underlying25
theorem zlP {w:World}{base g:Nat}{v:Value}{l:List (List UInt8)}(h:zbe w v l)(hl:l.length≤1099511627776)(hg:g=w.heap.size)(hb:base≤w.heap.size) :
  ∃ a c w',(Builtin.append_ #[25,25] 25 #[.slice (some ⟨g,0,none⟩) 0 0,v]).run Tryz.prog (w.alloc (.cells #[] 9))= .ok (.slice a l.length c) w' ∧
   Below w.heap.size w w'∧w.heap.size<w'.heap.size∧∀ w2,(∀ b,b<w'.heap.size→base≤b→w2.heap[b]?=w'.heap[b]?)→zbe w2 (.slice a l.length c) l:=by
 subst hg
 have h0:World.ownsRow (w.alloc (.cells #[] 9)) w.heap.size 9 1 (.slice (some ⟨w.heap.size,0,none⟩) 0 0) 0 []:=by
  refine⟨rfl,.inr ⟨w.heap.size,0,#[],rfl,Nat.le_refl _,heap_alloc_new w _,Nat.le_refl _,by unfold maxLen;omega,rfl,rfl⟩⟩
 have hseg:Seg (w.alloc (.cells #[] 9)) v 1 l.length (l.map zbv):=h.1.keep (zaa ((Below.refl _ _).alloc (Nat.le_refl _) _))
 obtain⟨v',w',hr,hO,hg,hat⟩:=za9 (P:=Tryz.prog) (w.alloc (.cells #[] 9)) w.heap.size 25 25 9 (.string ⟨#[]⟩) 1 16 zny zqH rfl (by decide) _ v 0 l.length [] _ h0 hseg
  (by intro u hu;obtain⟨t,-,rfl⟩:=List.mem_map.1 hu;rfl) (by omega) (by omega) (by simp)
 rw[Nat.zero_add,List.nil_append] at hO
 have hv':∃ a c,v'= .slice a l.length c:=by
  rcases hO.2 with ⟨rfl,e⟩|⟨g,cap,cur,rfl,-⟩
  ·
   exact⟨none,0,by rw[e]⟩
  ·
   exact⟨_,_,rfl⟩
 obtain⟨a,c,rfl⟩:=hv'
 have hB1:Below w.heap.size w (w.alloc (.cells #[] 9)):=(Below.refl _ _).alloc (Nat.le_refl _) _
 refine⟨a,c,w',hr,hB1.grown hg hB1.size (fun q e=>by simp[Value.ownBlock] at e;omega),by have:=hg.size;simp at this;omega,fun w2 hw2=>⟨?_,h.2⟩⟩
 exact zbV (zaF hO fun b cur hb' he=>hw2 b (Array.getElem?_eq_some_iff.1 he).1 (Nat.le_trans hb hb')) (by omega)
theorem zbD.form {d:Nat}{w:World}{v:Value}{x:Val (M d)}(h:zbD (zan d) w v x):∃ m a1 n1 c1 a2 n2 c2 a3 n3 c3,v= .agg #[.int .i64 m,.slice a1 n1 c1,.slice a2 n2 c2,.slice a3 n3 c3]:=by
 obtain⟨wv,tv,sv,rfl,-,hW,hT,hS⟩:=h
 obtain⟨-,wa,wc,rfl,-,-⟩:=hW.open
 obtain⟨-,ta,tc,rfl,-,-⟩:=hT.open
 obtain⟨-,sa,sc,rfl,-,-⟩:=hS.open
 exact⟨_,_,_,_,_,_,_,_,_,_,rfl⟩
def OfVOk (w0:World)(d:Nat):Prop:=∀ (w:World) (v:Value) (x:Val (M d)),zbD (zan d) w0 v x→Below w0.heap.size w0 w→vwt (mwt d) x≤1099511627776 →
 Calls Tryz.prog 33 #[v] w fun e w'=>∃ v',e= .returned v'∧Below w.heap.size w w'∧zej w0.heap.size w.heap.size w' fun w2=>zbD (zan d) w2 v' x
theorem zrS {d:Nat}(x:M (d+1))(h:mwt (d+1) x≤1099511627776):(M.unk x).length≤1099511627776∧(M.vals x).length≤1099511627776:=by
 have h1:∀ l:List (List UInt8),l.length≤twt l:=fun l=>by
  induction l with
  | nil=>simp
  | cons t l ih=>unfold twt at *;simp;omega
 have h2:∀ l:List (Val (M d)),l.length≤(l.map (vwt (mwt d))).sum:=fun l=>by
  induction l with
  | nil=>simp
  | cons t l ih =>
   have:1≤vwt (mwt d) t:=by unfold vwt;omega
   simp;omega
 have h3:1+twt (M.unk x)+((M.vals x).map (vwt (mwt d))).sum≤1099511627776:=h
 have:=h1 (M.unk x)
 have:=h2 (M.vals x)
 omega
theorem zlQ {w0:World}{d:Nat}(ih:OfVOk w0 d):OfOk w0 (d+1):=by
 intro w v x h hb hw
 obtain⟨vv,uv,rfl,hV,hU⟩:=h
 have hul:=zrS x hw
 have hlt0:=hb.size
 have hkr:=zaa hb
 obtain⟨hvl,va,vc,rfl,-,hva⟩:=hV.open
 obtain⟨hul2,ua,uc,huv,-,-⟩:=hU.open
 obtain⟨vn,HVN⟩:∃ n,Hid (n=(M.vals x).length):=⟨_,rfl⟩
 rw[←HVN.out] at hvl ⊢
 have h2:zbe ((w.alloc (.cells #[.slice va vn vc,uv] 27)).alloc (.cells #[.slice none 0 0,.slice none 0 0] 39)) uv (M.unk x):=
  (hU.keep hkr).keep (zaa (((Below.refl w.heap.size w).alloc (Nat.le_refl _) _).alloc (by simp) _))
 obtain⟨a3,c3,w3,hr3,hb3,hs3,hU3⟩:=zlP h2 hul.1 (g:=w.heap.size+1+1) (base:=w.heap.size+1+1) (by simp) (by simp)
 have hb3':=(((Below.refl w.heap.size w).alloc (Nat.le_refl _) (.cells #[.slice va vn vc,uv] 27)).alloc (by simp) (.cells #[.slice none 0 0,.slice none 0 0] 39)).trans (hb3.mono (by simp;omega))
 have hx3:Blk w3 w.heap.size [.slice va vn vc,uv] 27:=((hb3.block w.heap.size (by simp;omega)).trans ((Blk.new w _ _).alloc _))
 have hr3':Blk w3 (w.heap.size+1) [.slice none 0 0,.slice none 0 0] 39:=by
  refine (hb3.block (w.heap.size+1) (by simp)).trans ?_
  have:=Blk.new (w.alloc (.cells #[.slice va vn vc,uv] 27)) [.slice none 0 0,.slice none 0 0] 39
  rw[show (w.alloc (.cells #[.slice va vn vc,uv] 27)).heap.size=w.heap.size+1 by simp] at this
  exact this
 have hs3':w.heap.size+1+1<w3.heap.size:=by simpa using hs3
 subst huv
 have HR3:=hid hr3
 have HB3:=hid hb3'
 have HX3:=hid hx3
 have HZ3:=hid hr3'
 have HU3:=hid hU3
 have HW:=hid hw
 have HVA:=hid hva
 unfold OfVOk at ih
 have HIH:=hid ih
 have HB:=hid hb
 obtain⟨un,HUN⟩:∃ n,Hid (n=(M.unk x).length):=⟨_,rfl⟩
 rw[←HUN.out] at HR3 HX3 HU3 hul hul2 ⊢
 clear hva ih hV hU hw hb h2 hr3 hb3 hs3 hU3 hkr hr3' hx3 hb3'
 go_enter Tryz.func11,Tryz.ntmps11
 go_wp2_with (at_builtin;refine zac rfl _ _ _ rfl _ _ rfl rfl HR3.out ?_)
 obtain⟨B,HBB⟩:∃ B,Hid (B=w.heap.size):=⟨_,rfl⟩
 obtain⟨O,HOO⟩:∃ O,Hid (O=w3.heap.size):=⟨_,rfl⟩
 have hx1:=HX3.out.alloc (.cells #[.slice none 0 0,.slice a3 un c3] 39)
 have hr1:=HZ3.out.alloc (.cells #[.slice none 0 0,.slice a3 un c3] 39)
 have ho1:=Blk.new w3 [.slice none 0 0,.slice a3 un c3] 39
 have hz1:(w3.alloc (.cells #[.slice none 0 0,.slice a3 un c3] 39)).heap.size=w3.heap.size+1:=by simp
 have hb1:=(Below.refl w3.heap.size w3).alloc (Nat.le_refl _) (.cells #[.slice none 0 0,.slice a3 un c3] 39)
 generalize hW1:w3.alloc (.cells #[.slice none 0 0,.slice a3 un c3] 39)=W1 at *
 clear hW1
 rw[←HBB.out] at hx1 hr1 hs3' HB3 HU3 ⊢
 rw[←HOO.out] at ho1 hz1 hb1 hs3' HU3 ⊢
 have HX1:=hid hx1
 have HR1:=hid hr1
 have HO1:=hid ho1
 have HZ1:=hid hz1
 have HB1:=hid hb1
 have HBO:=hid hs3'
 have HN0:Hid (w0.heap.size≤B):=by rw[HBB.out];exact HB.out.size
 have HBW:Hid (∀ wr,Below O w3 wr→Below B w wr):=fun wr h=>HB3.out.trans (h.mono (by have:=HBO.out;omega))
 have HFIN:Hid (∀ w2,(∀ b,b<O→B+1+1≤b→w2.heap[b]?=w3.heap[b]?)→∀ vo,zcR (zan d) w2 vo (M.vals x)→zan (d+1) w2 (.agg #[vo,.slice a3 un c3]) x):=
  fun w2 hk vo hvo=>⟨vo,_,rfl,hvo,HU3.out w2 hk⟩
 have HLN:Hid (vn≤1099511627776):=by rw[Hid,HVN.out];exact hul.2
 clear hx1 hr1 ho1 hz1 hb1 hs3' HX3 HZ3 HR3 HU3 hul hul2
 go_loopw [4] (fun v4 wr=>∃ (i:Nat) (oa:Option Addr) (oc:Nat),v4= .int .i64 i∧i≤vn∧Hid (Below O w3 wr∧O<wr.heap.size∧Blk wr B [.slice va vn vc,.slice ua un uc] 27∧Blk wr (B+1) [.slice none 0 0,.slice none 0 0] 39∧Blk wr O [.slice oa i oc,.slice a3 un c3] 39∧zag (zgi d) 64 4 w0.heap.size (O+1) wr (.slice oa i oc) ((M.vals x).take i))) (fun v4 _=>vn - (intOf v4).toNat)
 case atStart =>
  exact⟨0,none,0,rfl,by omega,HB1.out,by rw[HZ1.out];omega,HX1.out,HR1.out,HO1.out,zag.nil _ _ _ _ _ _⟩
 case round =>
  obtain⟨i,oa,oc,rfl,hi,HI⟩:=hrel
  have c1:=HI.out.2.2.1.cell 0 _ rfl
  have hbl1:B<wr.heap.size:=HI.out.2.2.1.lt
  by_cases hlt:i<vn
  ·
   have hmi:(M.vals x)[i]?=some ((M.vals x)[i]'(by rw[←HVN.out];exact hlt)):=List.getElem?_eq_getElem _
   generalize (M.vals x)[i]'(by rw[←HVN.out];exact hlt)=m at hmi
   have hva:=HVA.out
   obtain⟨b,o,v1,v2,v3,ha,g0,g1,g2,g3,hM⟩:=hva i m hmi
   clear hva
   have hb0:Below w0.heap.size w0 wr:=HB.out.trans ((HBW.out wr HI.out.1).mono HN0.out)
   have HBOB:Hid (B<O):=by have:=HBO.out;show _<_;omega
   have hBne:O≠B:=by have:=HBOB.out;omega
   have HBL0:Hid (b<B):=Nat.lt_of_lt_of_le (World.block_lt_of_cell? w0 _ g0) HN0.out
   have hkr:=zaa hb0
   replace g0:=hkr _ _ g0
   replace g1:=hkr _ _ g1
   replace g2:=hkr _ _ g2
   replace g3:=hkr _ _ g3
   have HM:=hid hM
   have HB0:=hid hb0
   have HMB:Hid (vwt (mwt d) m≤1099511627776):=by
    have h1:=zba (vwt (mwt d)) (M.vals x) m (List.mem_of_getElem? hmi)
    have h2:1+twt (M.unk x)+((M.vals x).map (vwt (mwt d))).sum≤1099511627776:=HW.out
    show _≤_;omega
   have hix:=zae Tryz.underlying24 zfP ha i hlt (cap:=vc)
   have hbl:b<wr.heap.size:=World.block_lt_of_cell? wr _ g0
   have c2:=HI.out.2.2.2.2.1.cell 0 _ rfl
   have hfz:=HI.out.2.2.2.2.1.free 0
   have hbl2:=HI.out.2.1
   have hbne:O≠b:=by have:=HBL0.out;have:=HBOB.out;omega
   generalize hmn:m.num=mn at *
   clear ha hkr hM hb0
   have e0:wr.drew.cell? ⟨O,0,none⟩=some (.slice oa i oc):=c2
   have HC0:Hid (wr.drew.cell? ⟨B,0,none⟩=some (.slice va vn vc)∧wr.drew.cell? ⟨b,o+i*4,none⟩=some (.int .i64 mn)∧wr.drew.cell? ⟨b,o+i*4+1,none⟩=some v1∧wr.drew.cell? ⟨b,o+i*4+2,none⟩=some v2∧wr.drew.cell? ⟨b,o+i*4+3,none⟩=some v3):=⟨c1,g0,g1,g2,g3⟩
   have k0:=HC0.out
   have HN3:Hid (w0.heap.size≤O+1):=by have:=HN0.out;have:=HBOB.out;show _≤_;omega
   have HTL:Hid (((M.vals x).take i).length=i):=by rw[Hid,List.length_take,←HVN.out];omega
   have HLI:Hid (i≤1099511627776):=by have:=HLN.out;show _≤_;omega
   go_wp2_with fail
   have HTA:Hid ((M.vals x).take (i+1)=(M.vals x).take i++[m]):=by rw[Hid,List.take_add_one,hmi];rfl
   have HQ:Hid (∀ (w5:World) (a5:Option Addr) (c5:Nat),Below (O+1) wr w5→zag (zgi d) 64 4 w0.heap.size (O+1) w5 (.slice a5 (i+1) c5) ((M.vals x).take i++[m]) →
     ∀ w6,w6=w5.setCell ⟨O,0,none⟩ (.slice a5 (i+1) c5)→(Below O w3 w6∧O<w6.heap.size∧Blk w6 B [.slice va vn vc,.slice ua un uc] 27∧Blk w6 (B+1) [.slice none 0 0,.slice none 0 0] 39∧Blk w6 O [.slice a5 (i+1) c5,.slice a3 un c3] 39∧zag (zgi d) 64 4 w0.heap.size (O+1) w6 (.slice a5 (i+1) c5) ((M.vals x).take (i+1)))):=by
    rintro w5 a5 c5 h1 h2 w6 rfl
    have:=HBO.out
    refine⟨(HI.out.1.trans (h1.mono (by omega))).setCell (by show O≤O;omega) _,by have:=h1.size;simp;omega,?_,?_,?_,?_⟩
    ·
     exact Blk.set_other ((h1.block B (by omega)).trans HI.out.2.2.1) _ _ (by show B≠O;omega)
    ·
     exact Blk.set_other ((h1.block (B+1) (by omega)).trans HI.out.2.2.2.1) _ _ (by show B+1≠O;omega)
    ·
     exact Blk.set ((h1.block O (by omega)).trans HI.out.2.2.2.2.1) 0 _
    ·
     rw[HTA.out]
     refine h2.later (fun b' _ hc=>Below.heap_setCell w5 _ _ b' ?_) (by simp)
     show b'≠O
     have:=HN0.out
     omega
   have k01:=k0.1
   have k02:=k0.2.1
   have k03:=k0.2.2.1
   have k04:=k0.2.2.2.1
   have k05:=k0.2.2.2.2
   go_region_law (first|(go_simp;go_at_call 33;(with_reducible refine (HIH.out wr.drew _ m HM.out HB0.out.drew HMB.out).mono ?_);rintro e w1 ⟨vm,rfl,hbm,hap⟩;obtain⟨nn,a1,n1,cc1,a2,n2,cc2,aa3,n3,cc3,rfl⟩:=hap.here.form;have hk1:∀ p u,wr.drew.cell? p=some u→w1.cell? p=some u:=zaa hbm;have e1:w1.cell? ⟨O,0,none⟩=some (.slice oa i oc):=hk1 _ _ e0;have k1:w1.cell? ⟨B,0,none⟩=some (.slice va vn vc)∧w1.cell? ⟨b,o+i*4,none⟩=some (.int .i64 mn)∧w1.cell? ⟨b,o+i*4+1,none⟩=some v1∧w1.cell? ⟨b,o+i*4+2,none⟩=some v2∧w1.cell? ⟨b,o+i*4+3,none⟩=some v3:=⟨hk1 _ _ k0.1,hk1 _ _ k0.2.1,hk1 _ _ k0.2.2.1,hk1 _ _ k0.2.2.2.1,hk1 _ _ k0.2.2.2.2⟩;obtain⟨a5,c5,w5,hr5,hO5,hB4,hB5⟩:=zag.step HI.out.2.2.2.2.2 ((Below.refl wr.heap.size wr).drew.trans hbm) (by decide) HN3.out HI.out.2.1 HTL.out 37 _ 80 Tryz.underlying37 zoZ rfl #[.int .i64 nn,.slice a1 n1 cc1,.slice a2 n2 cc2,.slice aa3 n3 cc3] rfl (by intro u hu;simp at hu;rcases hu with rfl|rfl|rfl|rfl <;> rfl) m hap HLI.out (by decide);have e5:w5.cell? ⟨O,0,none⟩=some (.slice oa i oc):=(hB5.cell (p:=⟨O,0,none⟩) (by show O<O+1;omega)).trans c2;have k3:w5.cell? ⟨B,0,none⟩=some (.slice va vn vc)∧w5.cell? ⟨b,o+i*4,none⟩=some (.int .i64 mn)∧w5.cell? ⟨b,o+i*4+1,none⟩=some v1∧w5.cell? ⟨b,o+i*4+2,none⟩=some v2∧w5.cell? ⟨b,o+i*4+3,none⟩=some v3:=⟨(hB5.cell (p:=⟨B,0,none⟩) (by show B<O+1;have:=HBOB.out;omega)).trans c1,(hB5.cell (p:=⟨b,o+i*4,none⟩) (by show b<O+1;have:=HBL0.out;have:=HBOB.out;omega)).trans g0,(hB5.cell (p:=⟨b,o+i*4+1,none⟩) (by show b<O+1;have:=HBL0.out;have:=HBOB.out;omega)).trans g1,(hB5.cell (p:=⟨b,o+i*4+2,none⟩) (by show b<O+1;have:=HBL0.out;have:=HBOB.out;omega)).trans g2,(hB5.cell (p:=⟨b,o+i*4+3,none⟩) (by show b<O+1;have:=HBL0.out;have:=HBOB.out;omega)).trans g3⟩;have z3:w5.frozen? ⟨O,0,none⟩=false:=(hB5.frozen (p:=⟨O,0,none⟩) (by show O<O+1;omega)).trans hfz;have e4:=(hB4.cell (p:=⟨O,0,none⟩) (by show O<O+1;omega)).trans c2;have HR2:=hid hr5;have HO5:=hid hO5;have HB4:=hid hB4;have HB5:=hid hB5;clear hr5 hO5 hB4 hB5 hk1)|(refine za5 rfl (.tmp 18) (.tmp 25) _ rfl _ _ rfl rfl HR2.out ?_))
   all_goals
    go_wp2_with fail
    go_roundw
    case rel=>exact⟨i+1,_,_,by go_num,hlt,HQ.out _ _ _ HB5.out HO5.out _ rfl⟩
    case measure=>simp[intOf];omega
  ·
   obtain rfl:i=vn:=by omega
   have hO:=HI.out.2.2.2.2.1
   have hR:=HI.out.2.2.2.1
   have b0:=hO.cell 0 _ rfl
   have b1:=hO.cell 1 _ rfl
   have r0:=hR.cell 0 _ rfl
   have r1:=hR.cell 1 _ rfl
   have f0:=hR.free 0
   have f1:=hR.free 1
   have hlr:=hR.lt
   have hlo:=hO.lt
   have HLO:=hid hlo
   clear hO hR
   go_wp2_with fail
   refine bodyPost_ret (v:=.agg #[.slice oa i oc,.slice a3 un c3]) ?_ rfl ⟨_,rfl,?_,?_⟩
   ·
    simp[results,Tryz.results11,go_sem,r0,r1]
   ·
    have hBw:w.heap.size≤B+1:=by rw[←HBB.out];omega
    (with_reducible repeat first|exact Below.refl _ _|refine pzA ?_ _|refine pzB ?_ _|refine zab ?_ _|refine Below.drew ?_)
    rw[←HBB.out]
    exact HBW.out _ HI.out.1
   ·
    intro w2 hw2
    have hag:∀ b',b'<wr.heap.size→(b'<w0.heap.size∨B+1+1≤b')→w2.heap[b']?=wr.heap[b']?:=by
     intro b' hlt' hc
     have hne:b'≠B+1:=by have:=HN0.out;omega
     refine (hw2 b' (by simpa using hlt') (hc.imp id fun h=>by rw[←HBB.out];omega)).trans ?_
     rw[Below.heap_setCell _ _ _ b' hne,Below.heap_setCell _ _ _ b' hne]
    have hsub:=HI.out.2.2.2.2.2.at (by rw[List.length_take];have:=HLN.out;omega) (fun b' h1 h2=>hag b' h1 (h2.imp id fun h=>by have:=HBO.out;omega))
    rw[List.take_of_length_le (by rw[HVN.out];exact Nat.le_refl _)] at hsub
    exact HFIN.out w2 (fun b' h1 h2=>(hag b' (by have:=HI.out.2.1;omega) (.inr h2)).trans (HI.out.1.block b' h1)) _ hsub
theorem zgj (w0:World):∀ d,OfOk w0 d
 | 0=>fun _ _ _ h=>h.elim
 | d+1=>zlQ fun _ _ _ h hb hw=>zgU (zgj w0 d) h hb hw
end
section
open Go.RowKit
theorem zfl {α:Type}(p:α→Bool)(l:List α)(k:Nat)(x:α)(h:l[k]?=some x):zam p (l.drop k) k=if p x then (k:Int) else zam p (l.drop (k+1)) (k+1):=by
 obtain⟨hk,rfl⟩:=List.getElem?_eq_some_iff.1 h
 rw[List.drop_eq_getElem_cons hk,zam]
theorem zd0 {α:Type}(p:α→Bool):∀ (l:List α) (i:Nat),decide (0≤zam p l i)=l.any p
 | [],i=>by simp[zam]
 | x::r,i=>by
  rw[zam,List.any_cons]
  cases h:p x with
  | true=>rw[if_pos rfl];simp
  | false=>rw[if_neg (by decide),zd0 p r (i+1)];simp
theorem zjI {w:World}{v:Value}{l:List Nat}(h:zcl w v l)(F:Nat)(cap:Array Value)(p:Nat→Bool)(hcf:∀ (args:Array Value) (w:World),(callFunc F args).run Tryz.prog w= .ok (.enter F args) w)
  (hcl:∀ x∈l,∀ (wr:World),x<2 ^ 64→Below w.heap.size w wr→Calls Tryz.prog F (#[.int .u64 x]++cap) wr fun e w'=>e= .returned (.bool (p x))∧Below wr.heap.size wr w') :
  Calls Tryz.prog 188 #[v,.func (.func F) #[] cap] w fun e w'=>e= .returned (.int .i64 (zam p l 0))∧Below w.heap.size w w':=by
 obtain⟨hlen,a,c,rfl,-,hat⟩:=h.open
 obtain⟨n,HN⟩:∃ n,Hid (n=l.length):=⟨_,rfl⟩
 rw[←HN.out] at hlen ⊢
 have HAT:=hid hat
 have HCL:=hid hcl
 clear hat hcl
 go_enter Tryz.func188,Tryz.ntmps188
 go_wp2
 go_loopw [8] (fun v8 wr=>∃ k:Nat,k≤n∧v8= .int .i64 k∧Hid (zam p (l.drop k) k=zam p l 0)∧Hid (Below w.heap.size w wr)) (fun v8 _=>n - (intOf v8).toNat)
 case atStart=>exact⟨0,by omega,rfl,hid rfl,Below.refl _ _⟩
 case round =>
  obtain⟨k,hk,rfl,HK,HB⟩:=hrel
  by_cases hlt:k<n
  ·
   have hat:=HAT.out
   have hxi:l[k]?=some (l[k]'(by rw[←HN.out];exact hlt)):=List.getElem?_eq_getElem _
   generalize l[k]'(by rw[←HN.out];exact hlt)=x at hxi
   obtain⟨hx64,b,o,ha,g0⟩:=hat k x hxi
   clear hat
   have HXX:=hid hx64
   clear hx64
   have r0:=zaa HB.out _ _ g0
   have hU:zgS x= .int .u64 x:=rfl
   rw[hU] at r0
   have hbl:b<wr.heap.size:=World.block_lt_of_cell? wr _ r0
   have hix:=zad Tryz.underlying62 zeU ha k hlt (cap:=c)
   clear g0 hU
   have hst:=hid (zfl p l k x hxi)
   have HMEM:=hid (List.mem_of_getElem? hxi)
   clear ha hxi
   go_wp2_with fail
   have hcl:=HCL.out
   refine (hcl x HMEM.out wr HXX.out HB.out).mono ?_
   rintro e w5 ⟨rfl,hb5⟩
   clear hcl
   have HB5:Hid (Below w.heap.size w w5):=zaf HB.out hb5 HB.out.size
   clear hb5
   cases hp:p x with
   | true =>
    have e:zam p l 0=k:=by rw[←HK.out,hst.out,if_pos hp]
    have HE:=hid e
    clear hp e
    go_wp2
    go_ret
    exact⟨by rw[HE.out];rfl,HB5.out⟩
   | false =>
    have e:zam p (l.drop (k+1)) (k+1)=zam p l 0:=by rw[←HK.out,hst.out,if_neg (by rw[hp];decide)]
    have HE:=hid e
    clear hp e
    go_wp2
    go_roundw
    case rel=>exact⟨k+1,by omega,by go_num,HE.out,HB5.out⟩
    case measure=>simp[intOf];omega
  ·
   go_wp2
   go_ret
   have e:zam p l 0= -1:=by
    rw[←HK.out,List.drop_of_length_le (by rw[←HN.out];omega)];rfl
   exact⟨by rw[e];rfl,HB.out⟩
theorem zgV {w:World}{v:Value}{l:List Nat}(h:zcl w v l)(F:Nat)(cap:Array Value)(p:Nat→Bool)(hcf:∀ (args:Array Value) (w:World),(callFunc F args).run Tryz.prog w= .ok (.enter F args) w)
  (hcl:∀ x∈l,∀ (wr:World),x<2 ^ 64→Below w.heap.size w wr→Calls Tryz.prog F (#[.int .u64 x]++cap) wr fun e w'=>e= .returned (.bool (p x))∧Below wr.heap.size wr w') :
  Calls Tryz.prog 136 #[v,.func (.func F) #[] cap] w fun e w'=>e= .returned (.bool (l.any p))∧Below w.heap.size w w':=by
 obtain⟨x,HX⟩:∃ x,Hid (x=zam p l 0):=⟨_,rfl⟩
 have HA:Hid (decide (0≤x)=l.any p):=by rw[HX.out];exact zd0 p l 0
 have HI:=hid (zjI h F cap p hcf hcl)
 rw[←HX.out] at HI
 obtain⟨hlen,a,c,rfl,-,-⟩:=h.open
 clear h hcl
 go_enter Tryz.func136,Tryz.ntmps136
 go_wp2_with fail
 refine HI.out.mono ?_
 rintro e w1 ⟨rfl,hb1⟩
 go_wp2_with fail
 go_ret
 exact⟨zcT (by rw[←HA.out];first|rfl|(congr 1)),hb1⟩
theorem zjJ {w:World}{v:Value}{l:List (List UInt8)}(h:zbe w v l)(F:Nat)(cap:Array Value)(p:(List UInt8)→Bool)(hcf:∀ (args:Array Value) (w:World),(callFunc F args).run Tryz.prog w= .ok (.enter F args) w)
  (hcl:∀ x∈l,∀ (wr:World),x.length≤140737488355328→Below w.heap.size w wr→Calls Tryz.prog F (#[zbv x]++cap) wr fun e w'=>e= .returned (.bool (p x))∧Below wr.heap.size wr w') :
  Calls Tryz.prog 143 #[v,.func (.func F) #[] cap] w fun e w'=>e= .returned (.int .i64 (zam p l 0))∧Below w.heap.size w w':=by
 obtain⟨hlen,a,c,rfl,-,hat⟩:=h.open
 obtain⟨n,HN⟩:∃ n,Hid (n=l.length):=⟨_,rfl⟩
 rw[←HN.out] at hlen ⊢
 have HAT:=hid hat
 have HCL:=hid hcl
 clear hat hcl
 go_enter Tryz.func143,Tryz.ntmps143
 go_wp2
 go_loopw [8] (fun v8 wr=>∃ k:Nat,k≤n∧v8= .int .i64 k∧Hid (zam p (l.drop k) k=zam p l 0)∧Hid (Below w.heap.size w wr)) (fun v8 _=>n - (intOf v8).toNat)
 case atStart=>exact⟨0,by omega,rfl,hid rfl,Below.refl _ _⟩
 case round =>
  obtain⟨k,hk,rfl,HK,HB⟩:=hrel
  by_cases hlt:k<n
  ·
   have hat:=HAT.out
   have hxi:l[k]?=some (l[k]'(by rw[←HN.out];exact hlt)):=List.getElem?_eq_getElem _
   generalize l[k]'(by rw[←HN.out];exact hlt)=x at hxi
   obtain⟨hx64,b,o,ha,g0⟩:=hat k x hxi
   clear hat
   have HXX:=hid hx64
   clear hx64
   have r0:=zaa HB.out _ _ g0
   have hU:zbv x= .string ⟨x.toArray⟩:=rfl
   rw[hU] at r0
   have hbl:b<wr.heap.size:=World.block_lt_of_cell? wr _ r0
   have hix:=zad Tryz.underlying25 zcm ha k hlt (cap:=c)
   clear g0 hU
   have hst:=hid (zfl p l k x hxi)
   have HMEM:=hid (List.mem_of_getElem? hxi)
   clear ha hxi
   go_wp2_with fail
   have hcl:=HCL.out
   refine (hcl x HMEM.out wr HXX.out HB.out).mono ?_
   rintro e w5 ⟨rfl,hb5⟩
   clear hcl
   have HB5:Hid (Below w.heap.size w w5):=zaf HB.out hb5 HB.out.size
   clear hb5
   cases hp:p x with
   | true =>
    have e:zam p l 0=k:=by rw[←HK.out,hst.out,if_pos hp]
    have HE:=hid e
    clear hp e
    go_wp2
    go_ret
    exact⟨by rw[HE.out];rfl,HB5.out⟩
   | false =>
    have e:zam p (l.drop (k+1)) (k+1)=zam p l 0:=by rw[←HK.out,hst.out,if_neg (by rw[hp];decide)]
    have HE:=hid e
    clear hp e
    go_wp2
    go_roundw
    case rel=>exact⟨k+1,by omega,by go_num,HE.out,HB5.out⟩
    case measure=>simp[intOf];omega
  ·
   go_wp2
   go_ret
   have e:zam p l 0= -1:=by
    rw[←HK.out,List.drop_of_length_le (by rw[←HN.out];omega)];rfl
   exact⟨by rw[e];rfl,HB.out⟩
theorem zeg {w:World}{v:Value}{l:List (List UInt8)}(h:zbe w v l)(F:Nat)(cap:Array Value)(p:(List UInt8)→Bool)(hcf:∀ (args:Array Value) (w:World),(callFunc F args).run Tryz.prog w= .ok (.enter F args) w)
  (hcl:∀ x∈l,∀ (wr:World),x.length≤140737488355328→Below w.heap.size w wr→Calls Tryz.prog F (#[zbv x]++cap) wr fun e w'=>e= .returned (.bool (p x))∧Below wr.heap.size wr w') :
  Calls Tryz.prog 94 #[v,.func (.func F) #[] cap] w fun e w'=>e= .returned (.bool (l.any p))∧Below w.heap.size w w':=by
 obtain⟨x,HX⟩:∃ x,Hid (x=zam p l 0):=⟨_,rfl⟩
 have HA:Hid (decide (0≤x)=l.any p):=by rw[HX.out];exact zd0 p l 0
 have HI:=hid (zjJ h F cap p hcf hcl)
 rw[←HX.out] at HI
 obtain⟨hlen,a,c,rfl,-,-⟩:=h.open
 clear h hcl
 go_enter Tryz.func94,Tryz.ntmps94
 go_wp2_with fail
 refine HI.out.mono ?_
 rintro e w1 ⟨rfl,hb1⟩
 go_wp2_with fail
 go_ret
 exact⟨zcT (by rw[←HA.out];first|rfl|(congr 1)),hb1⟩
theorem zjK {d:Nat}{w:World}{v:Value}{l:List (M d)}(h:zef (zan d) w v l)(F:Nat)(cap:Array Value)(p:(M d)→Bool)(hcf:∀ (args:Array Value) (w:World),(callFunc F args).run Tryz.prog w= .ok (.enter F args) w)
  (hcl:∀ x∈l,∀ (mv:Value) (wr:World),zan d w mv x→Below w.heap.size w wr→Calls Tryz.prog F (#[mv]++cap) wr fun e w'=>e= .returned (.bool (p x))∧Below wr.heap.size wr w') :
  Calls Tryz.prog 192 #[v,.func (.func F) #[] cap] w fun e w'=>e= .returned (.int .i64 (zam p l 0))∧Below w.heap.size w w':=by
 obtain⟨hlen,a,c,rfl,-,hat⟩:=h.open
 obtain⟨n,HN⟩:∃ n,Hid (n=l.length):=⟨_,rfl⟩
 rw[←HN.out] at hlen ⊢
 have HAT:=hid hat
 have HCL:=hid hcl
 clear hat hcl
 go_enter Tryz.func192,Tryz.ntmps192
 go_wp2
 go_loopw [8] (fun v8 wr=>∃ k:Nat,k≤n∧v8= .int .i64 k∧Hid (zam p (l.drop k) k=zam p l 0)∧Hid (Below w.heap.size w wr)) (fun v8 _=>n - (intOf v8).toNat)
 case atStart=>exact⟨0,by omega,rfl,hid rfl,Below.refl _ _⟩
 case round =>
  obtain⟨k,hk,rfl,HK,HB⟩:=hrel
  by_cases hlt:k<n
  ·
   have hat:=HAT.out
   have hxi:l[k]?=some (l[k]'(by rw[←HN.out];exact hlt)):=List.getElem?_eq_getElem _
   generalize l[k]'(by rw[←HN.out];exact hlt)=x at hxi
   obtain⟨b,o,v1,v2,ha,g0,g1,hM⟩:=hat k x hxi
   clear hat
   have HXX:=hid hM
   clear hM
   have r0:=zaa HB.out _ _ g0
   have r1:=zaa HB.out _ _ g1
   have hbl:b<wr.heap.size:=World.block_lt_of_cell? wr _ r0
   have hix:=zae Tryz.underlying79 zdZ ha k hlt (cap:=c)
   clear g0 g1
   have hst:=hid (zfl p l k x hxi)
   have HMEM:=hid (List.mem_of_getElem? hxi)
   clear ha hxi
   go_wp2_with fail
   have hcl:=HCL.out
   refine (hcl x HMEM.out _ _ HXX.out HB.out).mono ?_
   rintro e w5 ⟨rfl,hb5⟩
   clear hcl
   have HB5:Hid (Below w.heap.size w w5):=zaf HB.out hb5 HB.out.size
   clear hb5
   cases hp:p x with
   | true =>
    have e:zam p l 0=k:=by rw[←HK.out,hst.out,if_pos hp]
    have HE:=hid e
    clear hp e
    go_wp2
    go_ret
    exact⟨by rw[HE.out];rfl,HB5.out⟩
   | false =>
    have e:zam p (l.drop (k+1)) (k+1)=zam p l 0:=by rw[←HK.out,hst.out,if_neg (by rw[hp];decide)]
    have HE:=hid e
    clear hp e
    go_wp2
    go_roundw
    case rel=>exact⟨k+1,by omega,by go_num,HE.out,HB5.out⟩
    case measure=>simp[intOf];omega
  ·
   go_wp2
   go_ret
   have e:zam p l 0= -1:=by
    rw[←HK.out,List.drop_of_length_le (by rw[←HN.out];omega)];rfl
   exact⟨by rw[e];rfl,HB.out⟩
theorem zgW {d:Nat}{w:World}{v:Value}{l:List (M d)}(h:zef (zan d) w v l)(F:Nat)(cap:Array Value)(p:(M d)→Bool)(hcf:∀ (args:Array Value) (w:World),(callFunc F args).run Tryz.prog w= .ok (.enter F args) w)
  (hcl:∀ x∈l,∀ (mv:Value) (wr:World),zan d w mv x→Below w.heap.size w wr→Calls Tryz.prog F (#[mv]++cap) wr fun e w'=>e= .returned (.bool (p x))∧Below wr.heap.size wr w') :
  Calls Tryz.prog 139 #[v,.func (.func F) #[] cap] w fun e w'=>e= .returned (.bool (l.any p))∧Below w.heap.size w w':=by
 obtain⟨x,HX⟩:∃ x,Hid (x=zam p l 0):=⟨_,rfl⟩
 have HA:Hid (decide (0≤x)=l.any p):=by rw[HX.out];exact zd0 p l 0
 have HI:=hid (zjK h F cap p hcf hcl)
 rw[←HX.out] at HI
 obtain⟨hlen,a,c,rfl,-,-⟩:=h.open
 clear h hcl
 go_enter Tryz.func139,Tryz.ntmps139
 go_wp2_with fail
 refine HI.out.mono ?_
 rintro e w1 ⟨rfl,hb1⟩
 go_wp2_with fail
 go_ret
 exact⟨zcT (by rw[←HA.out];first|rfl|(congr 1)),hb1⟩
end
end Go.Proofs.YtpckoeicbjfnhaaGreatDoor
