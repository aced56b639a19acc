/- Parts of a proof: texts of the author, merged. No condition of their own. -/
import Derived.Test.YtdpnmdkbdibkpaaGreatDoorZ10
import Derived.Test.YtdpnmdkbdibkpaaGreatDoorZ11
import Derived.Test.YtdpnmdkbdibkpaaGreatDoorZ16
import Derived.Test.YtdpnmdkbdibkpaaGreatDoorZ18
import Derived.Test.YtdpnmdkbdibkpaaGreatDoorZ32
import Derived.Test.YtdpnmdkbdibkpaaGreatDoorZ36
import Derived.Test.YtdpnmdkbdibkpaaGreatDoorZ41
namespace Go.Proofs.YtdpnmdkbdibkpaaGreatDoor
set_option maxRecDepth 100000
set_option maxHeartbeats 16000000
section
open Go.RowKit
end
section
open Go.RowKit
end
section
open Go.RowKit
def zcg:(d:Nat)→M d→List Int→Bool
 | 0,x,_=>Empty.elim x
 | _+1,_,[]=>false
 | d+1,x,n::t=>match zfZ (M.vals x) n with
  | none=>false
  | some v=>match t with
   | []=>true
   | m::t'=>match v.subs with
    | []=>false
    | p::_=>zcg d p (m::t')
def zlb:(d:Nat)→M d→List Int→Prop
 | 0,x,_=>Empty.elim x
 | _+1,_,[]=>False
 | d+1,x,n::t=>∀ v,zfZ (M.vals x) n=some v→t=[]∨∃ p l,v.subs=p::l∧zlb d p t
theorem zlc {d:Nat}{x:M (d+1)}{n:Int}{t:List Int}(h:zfZ (M.vals x) n=none):zcg (d+1) x (n::t)=false:=by rw[zcg,h]
theorem ziq {d:Nat}{x:M (d+1)}{n:Int}{v:Val (M d)}(h:zfZ (M.vals x) n=some v):zcg (d+1) x [n]=true:=by rw[zcg,h]
theorem zld {d:Nat}{x:M (d+1)}{n:Int}{v:Val (M d)}{p:M d}{l:List (M d)}{t:List Int}(h:zfZ (M.vals x) n=some v)(hs:v.subs=p::l)(ht:t≠[]):zcg (d+1) x (n::t)=zcg d p t:=by
 cases t with
 | nil=>exact absurd rfl ht
 | cons m t' =>
  rw[zcg,h]
  simp only
  rw[hs]
end
section
open Go.RowKit Go.Shelf
inductive AtIs:(d:Nat)→M d→List Int→(e:Nat)→Val (M e)→Prop
 | one {d:Nat} {x:M (d+1)} {n:Int} {v:Val (M d)}:zfZ (M.vals x) n=some v→AtIs (d+1) x [n] d v
 | more {d e:Nat} {x:M (d+1)} {n:Int} {t:List Int} {v:Val (M d)} {p:M d} {l:List (M d)} {u:Val (M e)}:zfZ (M.vals x) n=some v→v.subs=p::l→t≠[]→AtIs d p t e u→AtIs (d+1) x (n::t) e u
theorem zoy {d e:Nat}{x:M (d+1)}{n:Int}{t:List Int}{u:Val (M e)}(h:zfZ (M.vals x) n=none):¬ AtIs (d+1) x (n::t) e u:=by
 intro ha
 cases ha with
 | one h1=>rw[h] at h1;cases h1
 | more h1=>rw[h] at h1;cases h1
def zgy (d:Nat)(x:M d)(way:List Int)(w0 w:World)(e:Ending)(w':World):Prop:=
 ∃ num a1 n1 c1 a2 n2 c2 a3 n3 c3,e= .returned (.tuple #[.agg #[.int .i64 num,.slice a1 n1 c1,.slice a2 n2 c2,.slice a3 n3 c3],.bool (zcg d x way)])∧Below w.heap.size w w'∧(∀ (e:Nat) (u:Val (M e)),AtIs d x way e u→zat (zac e) w0 (.agg #[.int .i64 num,.slice a1 n1 c1,.slice a2 n2 c2,.slice a3 n3 c3]) u)∧(zcg d x way=false→num=0∧(a1=none∧n1=0∧c1=0)∧(a2=none∧n2=0∧c2=0)∧a3=none∧n3=0∧c3=0)
def zoz (d:Nat):Prop:=∀ (w0 w:World) (v wv:Value) (x:M d) (way:List Int),Below w0.heap.size w0 w→zac d w0 v x→zar w wv way→zlb d x way→Calls Tryz.prog 15 #[v,wv] w (zgy d x way w0 w)
theorem zhQ (d:Nat)(ih:zoz d):zoz (d+1):=by
 intro w0 w v wv x way hw h hW hs
 have HW00:=hid hw
 have HW:=hid hW
 have HIH:=hid ih
 obtain⟨nn,t,rfl⟩:∃ n t,way=n::t:=by
  cases way with
  | nil=>exact hs.elim
  | cons n t=>exact⟨n,t,rfl⟩
 obtain⟨hl,a,c,rfl,-,hat⟩:=hW.open
 obtain⟨-,b,o,ha,g0⟩:=hat 0 nn rfl
 obtain⟨n,HN⟩:∃ n,Hid (n=(nn::t).length):=⟨_,rfl⟩
 rw[←HN.out] at hl HW ⊢
 have hn0:0<n:=by rw[HN.out];simp
 obtain⟨vv,uv,rfl,hV,hU⟩:=h
 obtain⟨-,va,vc,rfl,-,hva⟩:=hV.open
 obtain⟨-,ua,uc,rfl,-,-⟩:=hU.open
 obtain⟨un,HUN⟩:∃ n,Hid (n=(M.unk x).length):=⟨_,rfl⟩
 obtain⟨vn,HVN⟩:∃ n,Hid (n=(M.vals x).length):=⟨_,rfl⟩
 rw[←HUN.out,←HVN.out]
 rw[←HVN.out] at hV
 obtain⟨Q,HQ⟩:∃ Q:Ending→World→Prop,Hid (Q=zgy (d+1) x (nn::t) w0 w):=⟨_,rfl⟩
 rw[←HQ.out]
 obtain⟨B,HB⟩:∃ B,Hid (B=w.heap.size):=⟨_,rfl⟩
 obtain⟨W0,HW0⟩:∃ W,Hid (W=(w.alloc (.cells #[.slice va vn vc,.slice ua un uc] 38)).alloc (.cells #[.int .i64 0,.slice none 0 0,.slice none 0 0,.slice none 0 0] 42)):=⟨_,rfl⟩
 have hb0:Below w.heap.size w W0:=by rw[HW0.out];(with_reducible repeat first|exact Below.refl _ _|refine pzA ?_ _|refine pzB ?_ _|refine zab ?_ _|refine Below.drew ?_)
 have hk0:Blk W0 B [.slice va vn vc,.slice ua un uc] 38:=by rw[HW0.out,HB.out];exact (Blk.new w [.slice va vn vc,.slice ua un uc] _).alloc _
 have hk1:Blk W0 (B+1) [.int .i64 0,.slice none 0 0,.slice none 0 0,.slice none 0 0] 42:=by rw[HW0.out,HB.out];exact Blk.new' _ [.int .i64 0,.slice none 0 0,.slice none 0 0,.slice none 0 0] _ _ (by simp)
 obtain⟨W1,HW1⟩:∃ W,Hid (W=W0.drew):=⟨_,rfl⟩
 have hb1:Below W0.heap.size W0 W1:=by rw[HW1.out];exact (Below.refl _ _).drew
 have HB1:=hid (hb0.trans (hb1.mono hb0.size))
 have HB01:=hid (HW00.out.trans (HB1.out.mono HW00.out.size))
 have HG:=hid (zkk (a2:=ua) (n2:=un) (c2:=uc) (hV.keep (zaa HB01.out) fun _ _ hx=>hx.below HB01.out) nn)
 have hq:W1.cell? ⟨B,0,none⟩=some (.slice va vn vc)∧W1.cell? ⟨B,1,none⟩=some (.slice ua un uc)∧W1.cell? ⟨b,o,none⟩=some (.int .i64 nn):=⟨(hk0.below hb1).cell 0 _ rfl,(hk0.below hb1).cell 1 _ rfl,zaa HB1.out _ _ g0⟩
 have HQ0:=hid hq
 have HBK:=hid (And.intro (hk0.below hb1) (hk1.below hb1))
 have HVA:=hid hva
 have hix:∀ W:World,(Instr.indexAt 28 (.slice a n c) (.int .i64 0)).run Tryz.prog W= .ok (.pointer (some ⟨b,o,none⟩)) W:=fun W=>by
  have:=zag Tryz.underlying28 zbr ha 0 hn0 (cap:=c) W
  simpa using this
 have HSF:=hid hs
 have HBB:Hid (w.heap.size≤B+1):=by rw[HB.out];show _≤_;omega
 clear hw hW hat hb0 hk0 hk1 hb1 hva hV hU hs g0 ha ih
 go_enter Tryz.func15,Tryz.ntmps15
 go_upto_region 1 with fail
 rw[←HW0.out,←HB.out]
 refine zaS (fun w'=>w'.cell? ⟨B,0,none⟩=some (.slice va vn vc)∧w'.cell? ⟨B,1,none⟩=some (.slice ua un uc)∧w'.cell? ⟨b,o,none⟩=some (.int .i64 nn)) (fun _=>True) 4 [(0,0),(1,0),(2,0),(3,0),(4,2),(5,0)] (by kernel_rfl) rfl rfl (by kernel_rfl) (fun _ _ dst _ _ h=>by cases dst <;> exact h) (by rw[←HW1.out];exact hq) trivial (fun OPS2 _=>?_)
 clear hq
 rw[←HW1.out]
 simp only[List.map_cons,List.map_nil,List.filterMap_cons,List.filterMap_nil,List.getElem?_cons_succ,List.getElem?_cons_zero]
 refine zav (v:=?v0) ?hy0 ?hr0
 case hy0=>(intro w hw;go_simp;all_goals rfl)
 simp only[Act.put,pzC,pzD,pzE]
 refine zav (v:=?v1) ?hy1 ?hr1
 case hy1=>(intro w hw;go_simp;all_goals rfl)
 simp only[Act.put,pzC,pzD,pzE]
 refine zav (v:=?v2) ?hy2 ?hr2
 case hy2=>(intro w hw;go_simp;all_goals rfl)
 simp only[Act.put,pzC,pzD,pzE]
 refine zav (v:=?v3) ?hy3 ?hr3
 case hy3=>(intro w hw;go_simp;all_goals rfl)
 simp only[Act.put,pzC,pzD,pzE]
 refine zcY (fun K12 HK12=>?_)
 go_wp2_with fail
 refine HG.out.mono ?_
 rintro e w2 ⟨i,rfl,hgi,hb2⟩
 have q2:w2.cell? ⟨B,0,none⟩=some (.slice va vn vc)∧w2.cell? ⟨B,1,none⟩=some (.slice ua un uc)∧w2.cell? ⟨b,o,none⟩=some (.int .i64 nn):=⟨zaa hb2 _ _ HQ0.out.1,zaa hb2 _ _ HQ0.out.2.1,zaa hb2 _ _ HQ0.out.2.2⟩
 have HB2:=hid (HB1.out.trans (hb2.mono HB1.out.size))
 have HB12:=hid hb2
 go_wp2_with fail
 refine HK12.out _ _ q2 ?_
 clear HK12 K12 hix HG
 intro _
 refine zav (v:=?v10) ?hy10 ?hr10
 case hy10=>(intro w hw;go_simp;all_goals rfl)
 simp only[Act.put,pzC,pzD,pzE]
 refine zcE ?_
 have HQ2:=hid q2
 have hr:=HBK.out.2.below hb2
 have r0:=hr.cell 0 _ rfl
 have r1:=hr.cell 1 _ rfl
 have r2:=hr.cell 2 _ rfl
 have r3:=hr.cell 3 _ rfl
 have f0:=hr.free 0
 have f1:=hr.free 1
 have f2:=hr.free 2
 have f3:=hr.free 3
 have rl:=hr.lt
 clear q2 hb2
 rcases hgi with ⟨rfl,hnone⟩|⟨k,m,rfl,hk,hnum,hsome⟩
 ·
  obtain⟨hk2,hbut⟩:=zoJ (a:=.int .i64 0) (b:=.slice none 0 0) (c:=.slice none 0 0) (e:=.slice none 0 0) hr
  obtain⟨W2,HW2⟩:∃ W,Hid (W=(((w2.setCell ⟨B+1,0,none⟩ (.int .i64 0)).setCell ⟨B+1,1,none⟩ (.slice none 0 0)).setCell ⟨B+1,2,none⟩ (.slice none 0 0)).setCell ⟨B+1,3,none⟩ (.slice none 0 0)):=⟨_,rfl⟩
  rw[←HW2.out] at hk2 hbut
  have s0:=hk2.cell 0 _ rfl
  have s1:=hk2.cell 1 _ rfl
  have s2:=hk2.cell 2 _ rfl
  have s3:=hk2.cell 3 _ rfl
  have HEN:Hid (Q (.returned (.tuple #[.agg #[.int .i64 0,.slice none 0 0,.slice none 0 0,.slice none 0 0],.bool false])) W2):=by
   rw[HQ.out]
   exact⟨_,_,_,_,_,_,_,_,_,_,by rw[zlc hnone],HB2.out.trans (hbut.to_below HBB.out HB2.out.size),fun e u h=>absurd h (zoy hnone),fun _=>⟨rfl,⟨rfl,rfl,rfl⟩,⟨rfl,rfl,rfl⟩,rfl,rfl,rfl⟩⟩
  clear hk2 hbut hr
  go_wp2_with fail
  rw[←HW2.out]
  exact bodyPost_ret (v:=.tuple #[.agg #[.int .i64 0,.slice none 0 0,.slice none 0 0,.slice none 0 0],.bool false]) (by simp[results,Tryz.results15,go_sem,s0,s1,s2,s3]) rfl HEN.out
 ·
  have hkl:k<vn:=by rw[HVN.out];exact (List.getElem?_eq_some_iff.1 hk).1
  have e1:decide ((k:Int)<0)=false:=decide_eq_false (by omega)
  obtain⟨p,po,v1,v2,v3,ha2,g0,g1,g2,g3,hM⟩:=HVA.out k m hk
  have HMV:=hid hM
  obtain⟨wv',tv,sv,hform,-,hWo,hTe,hSu⟩:=hM
  obtain⟨-,a1,q1,rfl,-,-⟩:=hWo.open
  obtain⟨-,a2,q2,rfl,-,-⟩:=hTe.open
  obtain⟨-,a3,q3,rfl,-,hsa⟩:=hSu.open
  obtain⟨rfl,rfl,rfl⟩:v1= .slice a1 m.words.length q1∧v2= .slice a2 m.texts.length q2∧v3= .slice a3 m.subs.length q3:=by cases hform;exact⟨rfl,rfl,rfl⟩
  clear hform
  have hp0:=g0
  have HB02:=hid (HW00.out.trans (HB2.out.mono HW00.out.size))
  have hkr:=zaa HB02.out
  replace g0:=hkr _ _ g0
  replace g1:=hkr _ _ g1
  replace g2:=hkr _ _ g2
  replace g3:=hkr _ _ g3
  clear hnum
  generalize m.num=num at *
  generalize m.words.length=n1 at *
  generalize m.texts.length=n2 at *
  obtain⟨n3,HN3⟩:∃ n,Hid (n=m.subs.length):=⟨_,rfl⟩
  rw[←HN3.out] at g3 HMV
  have hix:=zad Tryz.underlying36 zfM ha2 k hkl (cap:=vc)
  have hbl:=World.block_lt_of_cell? w2 _ g0
  have x0:=HQ2.out.1
  have xl:=World.block_lt_of_cell? w2 _ x0
  by_cases h1:n=1
  ·
   subst h1
   have ht0:t=[]:=by
    have:=HN.out
    rw[List.length_cons] at this
    exact List.eq_nil_of_length_eq_zero (by omega)
   obtain⟨hk2,hbut⟩:=zoJ (a:=.int .i64 num) (b:=.slice a1 n1 q1) (c:=.slice a2 n2 q2) (e:=.slice a3 n3 q3) hr
   obtain⟨W2,HW2⟩:∃ W,Hid (W=(((w2.setCell ⟨B+1,0,none⟩ (.int .i64 num)).setCell ⟨B+1,1,none⟩ (.slice a1 n1 q1)).setCell ⟨B+1,2,none⟩ (.slice a2 n2 q2)).setCell ⟨B+1,3,none⟩ (.slice a3 n3 q3)):=⟨_,rfl⟩
   rw[←HW2.out] at hk2 hbut
   have s0:=hk2.cell 0 _ rfl
   have s1:=hk2.cell 1 _ rfl
   have s2:=hk2.cell 2 _ rfl
   have s3:=hk2.cell 3 _ rfl
   have HEN:Hid (Q (.returned (.tuple #[.agg #[.int .i64 num,.slice a1 n1 q1,.slice a2 n2 q2,.slice a3 n3 q3],.bool true])) W2):=by
    rw[HQ.out]
    subst ht0
    exact⟨_,_,_,_,_,_,_,_,_,_,by rw[ziq hsome],HB2.out.trans (hbut.to_below HBB.out HB2.out.size),fun e u h=>by
     cases h with
     | one h1 =>
      rw[hsome] at h1
      cases h1
      exact HMV.out
     | more h1 h2 h3=>exact absurd rfl h3,fun h=>by rw[ziq hsome] at h;cases h⟩
   clear hk2 hbut hr hk hsome hSu hsa hTe hWo ha2 hkr ht0 hn0
   go_wp2_with fail
   rw[←HW2.out]
   exact bodyPost_ret (v:=.tuple #[.agg #[.int .i64 num,.slice a1 n1 q1,.slice a2 n2 q2,.slice a3 n3 q3],.bool true]) (by simp[results,Tryz.results15,go_sem,s0,s1,s2,s3]) rfl HEN.out
  ·
   have hne:t≠[]:=by
    rintro rfl
    have:=HN.out
    simp at this
    exact h1 this
   obtain hsf|⟨q,l,hsub,hsq⟩:=HSF.out m hsome
   ·
    exact absurd hsf hne
   obtain⟨sb,so,u1,u2,ha3,j0,j1,hMq⟩:=hsa 0 q (by rw[hsub];rfl)
   obtain⟨y1,i1,z1,y2,i2,z2,e⟩:=hMq.form
   cases e
   rw[Nat.zero_mul,Nat.add_zero] at j0 j1
   have hn3:0<n3:=by rw[HN3.out,hsub];simp
   have hix2:∀ W:World,(Instr.indexAt 40 (.slice a3 n3 q3) (.int .i64 0)).run Tryz.prog W= .ok (.pointer (some ⟨sb,so,none⟩)) W:=fun W=>by
    have:=zad Tryz.underlying40 zmX ha3 0 hn3 (cap:=q3) W
    simpa using this
   obtain⟨W3,HW3⟩:∃ W,Hid (W=w2.drew):=⟨_,rfl⟩
   have hb3:Below w2.heap.size w2 W3:=by rw[HW3.out];exact (Below.refl _ _).drew
   have HB3:=hid (HB2.out.trans (hb3.mono HB2.out.size))
   have HB03:=hid (HW00.out.trans (HB3.out.mono HW00.out.size))
   obtain⟨ta,tc,hslice,hti⟩:=(HW.out.below HB3.out).l HN.out 1 (by omega)
   rw[List.drop_one,List.tail_cons] at hti
   have hslice:∀ W:World,(Instr.slice 28 (.slice a n c) (some (.int .i64 1)) none none).run Tryz.prog W= .ok (.slice ta (n - 1) tc) W:=fun W=>by
    have:=hslice W
    simpa using this
   have HCALL:=hid (HIH.out w0 W3 _ _ q t HB03.out hMq hti hsq)
   have hth:zcg (d+1) x (nn::t)=zcg d q t:=zld hsome hsub hne
   have HTH:=hid hth
   have HAT:Hid (∀ (e:Nat) (u:Val (M e)),AtIs (d+1) x (nn::t) e u→AtIs d q t e u):=fun e u h=>by
    cases h with
    | one h1=>exact absurd rfl hne
    | more h1 h2 h3 h4 =>
     rw[hsome] at h1
     cases h1
     rw[hsub] at h2
     cases h2
     exact h4
   have hq3:W3.cell? ⟨B,0,none⟩=some (.slice va vn vc)∧W3.cell? ⟨p,po+k*4+3,none⟩=some (.slice a3 n3 q3)∧W3.cell? ⟨sb,so,none⟩=some (.slice y1 i1 z1)∧W3.cell? ⟨sb,so+1,none⟩=some (.slice y2 i2 z2):=⟨zaa hb3 _ _ x0,zaa hb3 _ _ g3,zaa HB03.out _ _ j0,zaa HB03.out _ _ j1⟩
   have HQ3:=hid hq3
   have HNE:Hid (B≠B+1∧p≠B+1∧sb≠B+1):=by
    have h4:=World.block_lt_of_cell? _ _ hp0
    have h5:=World.block_lt_of_cell? _ _ j0
    have:=HB.out
    have h6:=HW00.out.size
    refine⟨by omega,?_,?_⟩
    ·
     intro e;have:p<w0.heap.size:=h4;omega
    ·
     intro e;have:sb<w0.heap.size:=h5;omega
   have HRB:=hid (hr.below hb3)
   have e2:((n:Int) == 1)=false:=by simp;omega
   have e3:((n:Int) != 1)=true:=by simp;omega
   clear r0 r1 r2 r3 f0 f1 f2 f3 rl hr j0 j1 g0 g1 g2 g3 hsub hsq hMq hth hti hsa hSu hTe hWo hsome hk hkr ha2 ha3 hne hb3 HW HSF HVA HQ2 HBK
   go_upto_region 6 with fail
   clear x0 xl hbl
   refine zaS (fun w'=>w'.cell? ⟨B,0,none⟩=some (.slice va vn vc)∧w'.cell? ⟨p,po+k*4+3,none⟩=some (.slice a3 n3 q3)∧w'.cell? ⟨sb,so,none⟩=some (.slice y1 i1 z1)∧w'.cell? ⟨sb,so+1,none⟩=some (.slice y2 i2 z2)) (fun _=>True) 10 [(0,0),(1,0),(2,0),(3,0),(4,0),(5,0),(6,0),(7,0),(8,0),(9,0),(10,2),(11,0),(12,0),(13,2),(14,0)] (by kernel_rfl) rfl rfl (by kernel_rfl) (fun _ _ dst _ _ h=>by cases dst <;> exact h) (by rw[←HW3.out];exact hq3) trivial (fun OPS3 _=>?_)
   clear hq3
   rw[←HW3.out]
   simp only[List.map_cons,List.map_nil,List.filterMap_cons,List.filterMap_nil,List.getElem?_cons_succ,List.getElem?_cons_zero]
   refine zav (v:=?v20) ?hy20 ?hr20
   case hy20=>(intro w hw;go_simp;all_goals rfl)
   simp only[Act.put,pzC,pzD,pzE]
   refine zav (v:=?v21) ?hy21 ?hr21
   case hy21=>(intro w hw;go_simp;all_goals rfl)
   simp only[Act.put,pzC,pzD,pzE]
   refine zav (v:=?v22) ?hy22 ?hr22
   case hy22=>(intro w hw;go_simp;all_goals rfl)
   simp only[Act.put,pzC,pzD,pzE]
   refine zav (v:=?v23) ?hy23 ?hr23
   case hy23=>(intro w hw;go_simp;all_goals rfl)
   simp only[Act.put,pzC,pzD,pzE]
   refine zav (v:=?v24) ?hy24 ?hr24
   case hy24=>(intro w hw;go_simp;all_goals rfl)
   simp only[Act.put,pzC,pzD,pzE]
   refine zav (v:=?v25) ?hy25 ?hr25
   case hy25=>(intro w hw;go_simp;all_goals rfl)
   simp only[Act.put,pzC,pzD,pzE]
   refine zav (v:=?v26) ?hy26 ?hr26
   case hy26=>(intro w hw;go_simp;all_goals rfl)
   simp only[Act.put,pzC,pzD,pzE]
   refine zav (v:=?v27) ?hy27 ?hr27
   case hy27=>(intro w hw;go_simp;all_goals rfl)
   simp only[Act.put,pzC,pzD,pzE]
   refine zav (v:=?v28) ?hy28 ?hr28
   case hy28=>(intro w hw;go_simp;all_goals rfl)
   simp only[Act.put,pzC,pzD,pzE]
   refine zav (v:=?v29) ?hy29 ?hr29
   case hy29=>(intro w hw;go_simp;all_goals rfl)
   simp only[Act.put,pzC,pzD,pzE]
   refine zcY (fun K12 HK12=>?_)
   go_wp2_with fail
   refine HCALL.out.mono ?_
   rintro e w4 ⟨num4,b1,m1,c1,b2,m2,c2,b3,m3,c3,rfl,hb4,hva4,hnn4⟩
   have HVA4:=hid hva4
   have HNN4:=hid hnn4
   clear hva4 hnn4
   have q4:w4.cell? ⟨B,0,none⟩=some (.slice va vn vc)∧w4.cell? ⟨p,po+k*4+3,none⟩=some (.slice a3 n3 q3)∧w4.cell? ⟨sb,so,none⟩=some (.slice y1 i1 z1)∧w4.cell? ⟨sb,so+1,none⟩=some (.slice y2 i2 z2):=⟨zaa hb4 _ _ HQ3.out.1,zaa hb4 _ _ HQ3.out.2.1,zaa hb4 _ _ HQ3.out.2.2.1,zaa hb4 _ _ HQ3.out.2.2.2⟩
   have HB4:=hid (HB3.out.trans (hb4.mono HB3.out.size))
   have HR4:=hid (HRB.out.below hb4)
   obtain⟨tv,HTV⟩:∃ b,Hid (b=zcg d q t):=⟨_,rfl⟩
   rw[←HTV.out] at HTH ⊢
   have HQ4:=hid q4
   clear hb4 HCALL hix hix2 hslice
   go_wp2_with fail
   refine HK12.out _ _ q4 ?_
   clear HK12 K12 q4
   intro _
   refine zav (v:=?v40) ?hy40 ?hr40
   case hy40=>(intro w hw;go_simp;all_goals rfl)
   simp only[Act.put,pzC,pzD,pzE]
   refine zav (v:=?v41) ?hy41 ?hr41
   case hy41=>(intro w hw;go_simp;all_goals rfl)
   simp only[Act.put,pzC,pzD,pzE]
   obtain⟨hk2,hbut⟩:=zoJ (a:=.int .i64 num4) (b:=.slice b1 m1 c1) (c:=.slice b2 m2 c2) (e:=.slice b3 m3 c3) HR4.out
   obtain⟨W5,HW5⟩:∃ W,Hid (W=(((w4.setCell ⟨B+1,0,none⟩ (.int .i64 num4)).setCell ⟨B+1,1,none⟩ (.slice b1 m1 c1)).setCell ⟨B+1,2,none⟩ (.slice b2 m2 c2)).setCell ⟨B+1,3,none⟩ (.slice b3 m3 c3)):=⟨_,rfl⟩
   rw[←HW5.out] at hk2 hbut
   have s0:=hk2.cell 0 _ rfl
   have s1:=hk2.cell 1 _ rfl
   have s2:=hk2.cell 2 _ rfl
   have s3:=hk2.cell 3 _ rfl
   have q5:W5.cell? ⟨B,0,none⟩=some (.slice va vn vc)∧W5.cell? ⟨p,po+k*4+3,none⟩=some (.slice a3 n3 q3)∧W5.cell? ⟨sb,so,none⟩=some (.slice y1 i1 z1)∧W5.cell? ⟨sb,so+1,none⟩=some (.slice y2 i2 z2):=⟨hbut.cell HNE.out.1 HQ4.out.1,hbut.cell HNE.out.2.1 HQ4.out.2.1,hbut.cell HNE.out.2.2 HQ4.out.2.2.1,hbut.cell HNE.out.2.2 HQ4.out.2.2.2⟩
   have HEN:Hid (Q (.returned (.tuple #[.agg #[.int .i64 num4,.slice b1 m1 c1,.slice b2 m2 c2,.slice b3 m3 c3],.bool tv])) W5):=by
    rw[HQ.out]
    exact⟨_,_,_,_,_,_,_,_,_,_,by rw[HTH.out],HB4.out.trans (hbut.to_below HBB.out HB4.out.size),fun e u h=>HVA4.out e u (HAT.out e u h),fun h=>HNN4.out (by rw[HTH.out] at h;rw[←HTV.out];exact h)⟩
   have r0:=HR4.out.cell 0 _ rfl
   have r1:=HR4.out.cell 1 _ rfl
   have r2:=HR4.out.cell 2 _ rfl
   have r3:=HR4.out.cell 3 _ rfl
   have f0:=HR4.out.free 0
   have f1:=HR4.out.free 1
   have f2:=HR4.out.free 2
   have f3:=HR4.out.free 3
   have rl:=HR4.out.lt
   clear hk2 hbut
   refine zcY (fun K12 HK12=>?_)
   go_wp2_with fail
   rw[←HW5.out]
   refine HK12.out _ _ q5 ?_
   clear HK12 K12 q5 r0 r1 r2 r3 f0 f1 f2 f3 rl
   intro _
   refine zav (v:=?v50) ?hy50 ?hr50
   case hy50=>(intro w hw;go_simp;all_goals rfl)
   simp only[Act.put,pzC,pzD,pzE]
   refine zcE ?_
   go_wp2_with fail
   exact bodyPost_ret (v:=.tuple #[.agg #[.int .i64 num4,.slice b1 m1 c1,.slice b2 m2 c2,.slice b3 m3 c3],.bool tv]) (by simp[results,Tryz.results15,go_sem,s0,s1,s2,s3]) rfl HEN.out
theorem zhz:∀ d,zoz d
 | 0=>fun _ _ _ _ x _ _ _ _ _=>x.elim
 | d+1=>zhQ d (zhz d)
end
end Go.Proofs.YtdpnmdkbdibkpaaGreatDoor
