/- Parts of a proof: texts of the author, merged. No condition of their own. -/
import Derived.Test.YtdpnmdkbdibkpaaGreatDoorRows
import Derived.Test.YtdpnmdkbdibkpaaGreatDoorZ05
import Derived.Test.YtdpnmdkbdibkpaaGreatDoorZ08
import Derived.Test.YtdpnmdkbdibkpaaGreatDoorZ09
import Derived.Deep.Slices
import Derived.SizedLaws
import Derived.ProofKit
namespace Go.Proofs.YtdpnmdkbdibkpaaGreatDoor
set_option maxRecDepth 100000
set_option maxHeartbeats 16000000
section
open Go.RowKit
theorem znn {w:World}{v:Value}{s:List Mes}(hS:zaj w v s) :
  Calls Tryz.prog 5 #[v] w fun e w'=>(∃ b,e= .returned (.bool b))∧Below w.heap.size w w':=by
 obtain⟨hlen,a,cap,rfl,hat⟩:=hS.open
 obtain⟨n,HN⟩:∃ n,Hid (n=s.length):=⟨_,rfl⟩
 rw[←HN.out] at hat hlen ⊢
 have HAT:=hid hat
 clear hat hS
 go_enter Tryz.func5,Tryz.ntmps5
 go_wp2_with fail
 go_loopw [3,4,5] (fun v3 v4 _ wr=>∃ (z:Int) (i:Nat),v3= .int .i64 z∧i≤n∧v4= .int .i64 i∧Hid (Below w.heap.size w wr)) (fun _ v4 _ _=>n - (intOf v4).toNat)
 case atStart=>exact⟨0,0,rfl,by omega,rfl,Below.refl _ _⟩
 case round =>
  obtain⟨z,i,rfl,hi,rfl,HB⟩:=hrel
  by_cases hlt:i<n
  ·
   have hat:=HAT.out
   obtain⟨b,o,fv,ha,hnm,c0,c1,hfs⟩:=hat i hlt
   obtain⟨fl,fa,fcap,rfl,hft⟩:=hfs.open
   clear hat hfs
   obtain⟨fn,HFN⟩:∃ fn,Hid (fn=(s.getD i .zero).fields.length):=⟨_,rfl⟩
   obtain⟨nm,HNM⟩:∃ nm,Hid (nm=(s.getD i .zero).name):=⟨_,rfl⟩
   rw[←HFN.out] at fl c1 hft
   rw[←HNM.out] at hnm c0
   have HFT:=hid hft
   clear hft
   have hkr:=zaa HB.out
   replace c0:=hkr _ _ c0
   replace c1:=hkr _ _ c1
   clear hkr
   have hix:=zad Tryz.underlying23 zbV ha i hlt (cap:=cap)
   have hbl:b<wr.heap.size:=World.block_lt_of_cell? wr _ c0
   clear ha
   go_wp2_with fail
   go_quiet (fail)
   go_wp2_with fail
   obtain⟨wo,HWO⟩:∃ wo,Hid (wo=wr.drewN nq):=⟨_,rfl⟩
   rw[←HWO.out]
   have HBO:Hid (Below w.heap.size w wo):=by rw[HWO.out];exact zab HB.out _
   replace c1:wo.cell? ⟨b,o+i*2+1,none⟩=some (.slice fa fn fcap):=by rw[HWO.out];exact c1
   clear c0 hbl
   have HC1:=hid c1
   clear c1
   go_loopw [3,5] (fun v3 v5 wq=>∃ (z:Int) (k:Nat),v3= .int .i64 z∧k≤fn∧v5= .int .i64 k∧Hid (Below wo.heap.size wo wq)) (fun _ v5 _=>fn - (intOf v5).toNat)
   case atStart=>exact⟨_,0,rfl,by omega,rfl,Below.refl _ _⟩
   case round =>
    obtain⟨z2,k,rfl,hk,rfl,HBQ⟩:=hrel
    have c1:=zaa HBQ.out _ _ HC1.out
    have hbl:b<wr.heap.size:=World.block_lt_of_cell? wr _ c1
    by_cases hlk:k<fn
    ·
     have hft:=HFT.out
     obtain⟨b2,o2,ha2,hok,g0,-⟩:=hft k hlk
     clear hft
     have hkr:=zaa (HBO.out.trans (HBQ.out.mono HBO.out.size))
     replace g0:=hkr _ _ g0
     clear hkr
     obtain⟨fx,HFX⟩:∃ fx,Hid (fx=(s.getD i .zero).fields.getD k .zero):=⟨_,rfl⟩
     rw[←HFX.out] at hok g0
     have hsz:=hok.name
     have hix2:=zad Tryz.underlying62 zbW ha2 k hlk (cap:=fcap)
     have hbl2:b2<wr.heap.size:=World.block_lt_of_cell? wr _ g0
     clear ha2 hok
     go_wp2_with fail
     go_roundw
     case rel=>exact⟨_,k+1,rfl,hlk,by go_num,HBQ⟩
     case measure=>simp[intOf];omega
    ·
     go_wp2_with fail
     go_roundw
     case rel=>exact⟨_,i+1,rfl,hlt,by go_num,HBO.out.trans (HBQ.out.mono HBO.out.size)⟩
     case measure=>simp[intOf];omega
  ·
   go_wp2_with fail
   go_ret
   exact⟨⟨_,rfl⟩,HB.out⟩
end
section
open Go.RowKit Go.Shelf
end
section
open Go.RowKit Go.Deep
end
section
open Go.RowKit Go.Deep
theorem zno:Tryz.prog.bytesOf 65=8:=by kernel_rfl
theorem znp:Tryz.prog.cellsOf 65=1:=by kernel_rfl
theorem znq:Tryz.prog.bytesOf 27=48:=by kernel_rfl
theorem zjy:Tryz.prog.cellsOf 27=2:=by kernel_rfl
theorem znr:Tryz.prog.bytesOf 32=80:=by kernel_rfl
theorem zjz:Tryz.prog.cellsOf 32=4:=by kernel_rfl
theorem zh0:Tryz.prog.cellsOf 25=1:=by kernel_rfl
theorem zkx:Tryz.prog.cellsOf 29=1:=by kernel_rfl
theorem zl6:Tryz.prog.cellsOf 30=1:=by kernel_rfl
theorem zl7:Tryz.prog.cellsOf 24=1:=by kernel_rfl
theorem zln:∀ n:Nat,((List.range n).map fun _=>1).sum=n
 | 0=>rfl
 | n+1=>by rw[List.range_succ,List.map_append,List.sum_append,zln n];simp
theorem ziB {H:Type}{enc:TypeId × Value→H}{w:World}{v:Value}{d:DataW H}{p:List MemPlace}(hv:∃ a n c,v= .slice a n c)(h:DataW.Trod enc Tryz.prog w 0 (fun _=>true) true 29 v d p)(hL:zcC Tryz.prog 29 d) :
  ∃ l,zbn w v l∧l.length+1≤Rows.uptoBulk d:=by
 obtain⟨n,fuel,css,D,Pl,hs,hel,hd⟩:=zda Tryz.underlying29 znp (by rw[zno];omega) hv h hL
 obtain⟨c,hc⟩:=choose_lt (α:=Nat) (n:=n) (p:=fun i c=>css i=[zgK c]∧c<2 ^ 64) (fun i hi=>by
  obtain⟨h1,h2,-⟩:=hel i hi
  obtain⟨z,hz,-,wz⟩:=DataW.trod_int Tryz.underlying65 h2
  have hb:0≤z∧z≤18446744073709551615:=by simpa [Lit.wf,IntKind.min,IntKind.max,IntKind.signed,IntKind.bits] using wz
  refine⟨z.toNat,?_,by omega⟩
  rw[hz]
  simp only[zgK]
  rw[show ((z.toNat:Nat):Int)=z by omega])
 refine⟨(List.range n).map c,⟨?_,?_⟩,?_⟩
 ·
  rw[List.length_map,List.length_range,List.map_map,←ziz n css (zgK ∘ c) (fun i hi=>(hc i hi).1)]
  exact hs
 ·
  intro t ht
  obtain⟨i,hi,rfl⟩:=List.mem_map.1 ht
  exact (hc i (List.mem_range.1 hi)).2
 ·
  have:=zew (f:=fun _=>1) hd fun i _=>zev _
  rw[zln] at this
  simpa using this
def zns {H:Type}(enc:TypeId × Value→H)(w:World)(N:Nat):Prop:=∀ (fuel:Nat) (cs:List Value) (d:DataW H) (p:List MemPlace),DataW.trod enc Tryz.prog w 0 (fun _=>true) true fuel 27 cs=some (d,p)→zcC Tryz.prog 27 d→Rows.uptoBulk d≤N →
 cs.length=2∧∃ x:M N,zac N w (.agg cs.toArray) x∧mwt N x≤Rows.uptoBulk d
def zpT {H:Type}(enc:TypeId × Value→H)(w:World)(N:Nat):Prop:=∀ (fuel:Nat) (cs:List Value) (d:DataW H) (p:List MemPlace),DataW.trod enc Tryz.prog w 0 (fun _=>true) true fuel 32 cs=some (d,p)→zcC Tryz.prog 32 d→Rows.uptoBulk d≤N+1 →
 cs.length=4∧∃ x:Val (M N),zat (zac N) w (.agg cs.toArray) x∧vwt (mwt N) x≤Rows.uptoBulk d
theorem zlo {H:Type}{enc:TypeId × Value→H}{w:World}{N:Nat}(ih:zns enc w N):zpT enc w N:=by
 intro fuel cs d p h hL hN
 obtain⟨xs,n,-,hx,hl,hlen,hf⟩:=DataW.trod_struct Tryz.underlying32 h
 simp only[Prod.mk.injEq] at hx
 obtain⟨rfl,-⟩:=hx
 have hsub:=zc9 Tryz.underlying32 hL
 rw[zjz] at hl
 match cs,hl,xs,hlen with
 | [c0,c1,c2,c3],_,[x0,x1,x2,x3],_ =>
  have g0:DataW.trod enc Tryz.prog w 0 (fun _=>true) true n 3 [c0]=some x0:=by have:=hf 0 _ rfl;simpa [ze4] using this
  have g1:DataW.trod enc Tryz.prog w 0 (fun _=>true) true n 29 [c1]=some x1:=by have:=hf 1 _ rfl;simpa [zkx] using this
  have g2:DataW.trod enc Tryz.prog w 0 (fun _=>true) true n 25 [c2]=some x2:=by have:=hf 2 _ rfl;simpa [zh0] using this
  have g3:DataW.trod enc Tryz.prog w 0 (fun _=>true) true n 30 [c3]=some x3:=by have:=hf 3 _ rfl;simpa [zl6] using this
  obtain⟨n0,e0,-,w0⟩:=DataW.trod_int Tryz.underlying3 g0
  obtain⟨a1,m1,q1,rfl⟩:=zbt Tryz.underlying29 g1
  obtain⟨a2,m2,q2,rfl⟩:=zbt Tryz.underlying25 g2
  obtain⟨a3,m3,q3,rfl⟩:=zbt Tryz.underlying30 g3
  have hbk:Rows.uptoBulk (DataW.agg [x0.1,x1.1,x2.1,x3.1])=Rows.uptoBulk x0.1+(Rows.uptoBulk x1.1+(Rows.uptoBulk x2.1+(Rows.uptoBulk x3.1+0)))+1:=by simp[Rows.uptoBulk,Rows.uptoBulkAll]
  simp only[List.map_cons,List.map_nil] at hN ⊢
  rw[hbk] at hN ⊢
  have o0:=zev x0.1
  obtain⟨ws,hws,bws⟩:=ziB (d:=x1.1) (p:=x1.2) ⟨_,_,_,rfl⟩ ⟨n,by simpa [Value.cells] using g1⟩ (hsub 1 _ _ rfl rfl)
  obtain⟨ts,hts,bts⟩:=zfR (d:=x2.1) (p:=x2.2) ⟨_,_,_,rfl⟩ ⟨n,by simpa [Value.cells] using g2⟩ (hsub 2 _ _ rfl rfl)
  obtain⟨ss,hss,bss⟩:=zfS (d:=x3.1) (p:=x3.2) (fun w r x=>zac N w (.agg r.toArray) x) (mwt N) Tryz.underlying30 zjy (by rw[znq];omega) ⟨_,_,_,rfl⟩ ⟨n,by simpa [Value.cells] using g3⟩ (hsub 3 _ _ rfl rfl) N (by omega)
   (fun fuel cs d p h hL hb=>(ih fuel cs d p h hL hb).2)
  simp only[List.cons.injEq,and_true] at e0
  subst e0
  refine⟨rfl,⟨n0,ws,ts,ss⟩,⟨_,_,_,rfl,zlk w0,hws,hts,hss⟩,?_⟩
  show 1+ws.length+twt ts+(ss.map (mwt N)).sum≤_
  omega
theorem ziC {H:Type}{enc:TypeId × Value→H}{w:World}:∀ N,zns enc w N
 | 0=>fun _ _ d _ _ _ h=>absurd (zev d) (by omega)
 | N+1=>by
  have ih:=zlo (ziC (enc:=enc) (w:=w) N)
  intro fuel cs d p h hL hN
  obtain⟨xs,n,-,hx,hl,hlen,hf⟩:=DataW.trod_struct Tryz.underlying27 h
  simp only[Prod.mk.injEq] at hx
  obtain⟨rfl,-⟩:=hx
  have hsub:=zc9 Tryz.underlying27 hL
  rw[zjy] at hl
  match cs,hl,xs,hlen with
  | [c0,c1],_,[x0,x1],_ =>
   have g0:DataW.trod enc Tryz.prog w 0 (fun _=>true) true n 24 [c0]=some x0:=by have:=hf 0 _ rfl;simpa [zl7] using this
   have g1:DataW.trod enc Tryz.prog w 0 (fun _=>true) true n 25 [c1]=some x1:=by have:=hf 1 _ rfl;simpa [zh0] using this
   obtain⟨a1,m1,q1,rfl⟩:=zbt Tryz.underlying24 g0
   obtain⟨a2,m2,q2,rfl⟩:=zbt Tryz.underlying25 g1
   have hbk:Rows.uptoBulk (DataW.agg [x0.1,x1.1])=Rows.uptoBulk x0.1+(Rows.uptoBulk x1.1+0)+1:=by simp[Rows.uptoBulk,Rows.uptoBulkAll]
   simp only[List.map_cons,List.map_nil] at hN ⊢
   rw[hbk] at hN ⊢
   have o1:=zev x1.1
   obtain⟨us,hus,bus⟩:=zfR (d:=x1.1) (p:=x1.2) ⟨_,_,_,rfl⟩ ⟨n,by simpa [Value.cells] using g1⟩ (hsub 1 _ _ rfl rfl)
   obtain⟨vs,hvs,bvs⟩:=zfS (d:=x0.1) (p:=x0.2) (fun w r x=>zat (zac N) w (.agg r.toArray) x) (vwt (mwt N)) Tryz.underlying24 zjz (by rw[znr];omega) ⟨_,_,_,rfl⟩ ⟨n,by simpa [Value.cells] using g0⟩ (hsub 0 _ _ rfl rfl) N (by omega)
    (fun fuel cs d p h hL hb=>(ih fuel cs d p h hL (by omega)).2)
   refine⟨rfl,(⟨vs,us⟩:zec (M N)),⟨_,_,rfl,hvs,hus⟩,?_⟩
   show 1+twt us+(vs.map (vwt (mwt N))).sum≤_
   omega
end
section
def ltW:List Int→List Int→Bool
 | [],[]=>false
 | [],_::_=>true
 | _::_,[]=>false
 | x::a,y::b=>if x=y then ltW a b else decide (x<y)
theorem zcl:∀ a,ltW a a=false
 | []=>rfl
 | x::a=>by simp[ltW,zcl a]
theorem zdo:∀ a b c,ltW a b=true→ltW b c=true→ltW a c=true
 | [],b,[]=>by cases b <;> simp[ltW]
 | [],_,_::_=>by simp[ltW]
 | _::_,[],_=>by simp[ltW]
 | _::_,_::_,[]=>by simp[ltW]
 | x::a,y::b,z::c=>by
  have ih:=zdo a b c
  simp only[ltW]
  by_cases h1:x=y
  ·
   subst h1
   by_cases h2:x=z
   ·
    subst h2;simpa using ih
   ·
    simp only[if_true,if_neg h2,decide_eq_true_eq];intro _ h;exact h
  ·
   by_cases h2:y=z
   ·
    subst h2
    simp only[if_true,if_neg h1,decide_eq_true_eq]
    intro h _;exact h
   ·
    by_cases h3:x=z
    ·
     subst h3
     simp only[if_neg h1,if_neg h2,decide_eq_true_eq]
     intro h h';omega
    ·
     simp only[if_neg h1,if_neg h2,if_neg h3,decide_eq_true_eq]
     intro h h';omega
theorem ze6:∀ a b,ltW a b=false→ltW b a=false→a=b
 | [],[]=>fun _ _=>rfl
 | [],_::_=>by simp[ltW]
 | _::_,[]=>by simp[ltW]
 | x::a,y::b=>by
  have ih:=ze6 a b
  simp only[ltW]
  by_cases h1:x=y
  ·
   subst h1;simp only[if_true];intro h h';rw[ih h h']
  ·
   simp only[if_neg h1,if_neg (fun e:y=x=>h1 e.symm),decide_eq_false_iff_not]
   intro h h';omega
def zdH (way pre:List Int):Bool:=decide (pre.length≤way.length)&&decide (way.take pre.length=pre)
theorem zdI (way pre:List Int):zdH way pre=true↔pre <+: way:=by
 unfold zdH
 rw[List.prefix_iff_eq_take]
 simp only[Bool.and_eq_true,decide_eq_true_eq]
 constructor
 ·
  rintro⟨_,h⟩;exact h.symm
 ·
  intro h
  refine⟨?_,h.symm⟩
  have h2:=congrArg List.length h
  simp at h2
  omega
theorem zeI:∀ u v w:List Int,u <+: w→ltW v u=false→ltW w v=false→u <+: v
 | [],v,_,_,_,_=>List.nil_prefix
 | _::_,_,[],h,_,_=>by simp at h
 | x::u,[],z::w,h,h1,_=>by simp[ltW] at h1
 | x::u,y::v,z::w,h,h1,h2=>by
  rw[List.cons_prefix_cons] at h
  obtain⟨rfl,h⟩:=h
  by_cases e:x=y
  ·
   subst e
   simp only[ltW,if_true] at h1 h2
   rw[List.cons_prefix_cons]
   exact⟨rfl,zeI u v w h h1 h2⟩
  ·
   simp only[ltW,if_neg e,if_neg (fun e':y=x=>e e'.symm),decide_eq_false_iff_not] at h1 h2
   omega
theorem zh1:∀ u w:List Int,u <+: w→ltW w u=false
 | [],[],_=>rfl
 | [],_::_,_=>rfl
 | _::_,[],h=>by simp at h
 | x::u,z::w,h=>by
  rw[List.cons_prefix_cons] at h
  obtain⟨rfl,h⟩:=h
  simpa [ltW] using zh1 u w h
def zky (l:List (List Int))(w:List Int):Prop:=w∈l∧w≠[]∧∀ u∈l,u≠[]→u <+: w→u=w
def zeJ (l o:List (List Int)):Prop:=o.Pairwise (fun a b=>ltW a b=true)∧∀ w,w∈o↔zky l w
theorem zgP:∀ {a b:List (List Int)},a.Pairwise (fun a b=>ltW a b=true)→b.Pairwise (fun a b=>ltW a b=true)→(∀ w,w∈a↔w∈b)→a=b
 | [],[],_,_,_=>rfl
 | [],y::b,_,_,h=>absurd ((h y).2 (by simp)) (by simp)
 | x::a,[],_,_,h=>absurd ((h x).1 (by simp)) (by simp)
 | x::a,y::b,ha,hb,h=>by
  rw[List.pairwise_cons] at ha hb
  have hxy:x=y:=by
   have h1:=(h x).1 (by simp)
   have h2:=(h y).2 (by simp)
   rcases List.mem_cons.1 h1 with e|h1
   ·
    exact e
   rcases List.mem_cons.1 h2 with e|h2
   ·
    exact e.symm
   have h3:=zdo _ _ _ (ha.1 y h2) (hb.1 x h1)
   rw[zcl] at h3
   cases h3
  subst hxy
  have hab:∀ w,w∈a↔w∈b:=fun w=>by
   constructor
   ·
    intro hw
    rcases List.mem_cons.1 ((h w).1 (by simp[hw])) with e|hb'
    ·
     subst e
     have:=ha.1 w hw
     rw[zcl] at this;cases this
    ·
     exact hb'
   ·
    intro hw
    rcases List.mem_cons.1 ((h w).2 (by simp[hw])) with e|hb'
    ·
     subst e
     have:=hb.1 w hw
     rw[zcl] at this;cases this
    ·
     exact hb'
  rw[zgP ha.2 hb.2 hab]
theorem zeJ.one {l a b:List (List Int)}(ha:zeJ l a)(hb:zeJ l b):a=b:=
 zgP ha.1 hb.1 fun w=>(ha.2 w).trans (hb.2 w).symm
def zdb (o:List (List Int)):List (List Int)→List (List Int)
 | []=>o
 | w::r=>zdb (if w=[]∨(∃ u,o.getLast?=some u∧u <+: w) then o else o++[w]) r
def zoR (l o:List (List Int)):Prop:=
 o.Pairwise (fun a b=>ltW a b=true)∧(∀ w∈o,w∈l∧w≠[])∧(∀ w∈l,w≠[]→∃ u∈o,u <+: w)∧∀ u∈o,∀ v∈o,u <+: v→u=v
theorem zoR.mask {l o:List (List Int)}(h:zoR l o):zeJ l o:=by
 obtain⟨h1,h2,h3,h4⟩:=h
 refine⟨h1,fun w=>⟨fun hw=>⟨(h2 w hw).1,(h2 w hw).2,fun u hu hn hp=>?_⟩,fun ⟨hw,hn,hl⟩=>?_⟩⟩
 ·
  obtain⟨v,hv,hvu⟩:=h3 u hu hn
  have e:=h4 v hv w hw (hvu.trans hp)
  subst e
  exact hp.eq_of_length_le hvu.length_le
 ·
  obtain⟨v,hv,hvw⟩:=h3 w hw hn
  have e:=hl v (h2 v hv).1 (h2 v hv).2 hvw
  subst e
  exact hv
theorem znt {o:List (List Int)}(h:o.Pairwise (fun a b=>ltW a b=true)){u v:List Int}(hu:u∈o)(hv:o.getLast?=some v):u=v∨ltW u v=true:=by
 obtain⟨r,rfl⟩:∃ r,o=r++[v]:=by
  rw[List.getLast?_eq_some_iff] at hv
  exact hv
 rcases List.mem_append.1 hu with h1|h1
 ·
  exact .inr ((List.pairwise_append.1 h).2.2 u h1 v (by simp))
 ·
  exact .inl (by simpa using h1)
theorem zgQ:∀ (r l o:List (List Int)),zoR l o→r.Pairwise (fun a b=>ltW b a=false)→(∀ w∈l,∀ v∈r,ltW v w=false)→zoR (l++r) (zdb o r)
 | [],l,o,h,_,_=>by simpa [zdb] using h
 | w::r,l,o,h,hr,hl=>by
  have hr':=List.pairwise_cons.1 hr
  rw[zdb,show l++w::r=(l++[w])++r by simp]
  refine zgQ r (l++[w]) _ ?_ hr'.2 ?_
  ·
   obtain⟨h1,h2,h3,h4⟩:=h
   split
   ·
    rename_i hc
    refine⟨h1,fun v hv=>⟨by simp[(h2 v hv).1],(h2 v hv).2⟩,fun v hv hn=>?_,h4⟩
    rcases List.mem_append.1 hv with hv|hv
    ·
     exact h3 v hv hn
    ·
     simp at hv
     subst hv
     rcases hc with e|⟨u,hu,hp⟩
     ·
      exact absurd e hn
     ·
      exact⟨u,List.mem_of_getLast? hu,hp⟩
   ·
    rename_i hc
    simp only[not_or,not_exists,not_and] at hc
    -- none that is taken begins w
    have hno:∀ u∈o,¬ u <+: w:=by
     intro u hu hp
     have hne:o≠[]:=fun e=>by subst e;simp at hu
     have hg:o.getLast?=some (o.getLast hne):=List.getLast?_eq_some_getLast hne
     have hgm:=List.getLast_mem hne
     rcases znt h1 hu hg with e|hlt
     ·
      exact hc.2 _ hg (e ▸ hp)
     ·
      have hp2:u <+: o.getLast hne:=by
       refine zeI _ _ _ hp ?_ (hl _ (h2 _ hgm).1 w (by simp))
       cases hx:ltW (o.getLast hne) u with
       | false=>rfl
       | true =>
        have:=zdo _ _ _ hlt hx
        rw[zcl] at this;cases this
      have e:=h4 u hu _ hgm hp2
      rw[←e,zcl] at hlt
      cases hlt
    have hnb:∀ u∈o,ltW u w=true:=by
     intro u hu
     cases hx:ltW u w with
     | true=>rfl
     | false =>
      have e:=ze6 u w hx (hl u (h2 u hu).1 w (by simp))
      exact absurd (e ▸ List.prefix_refl u) (hno u hu)
    refine⟨?_,?_,?_,?_⟩
    ·
     rw[List.pairwise_append]
     exact⟨h1,by simp,fun u hu v hv=>by simp at hv;subst hv;exact hnb u hu⟩
    ·
     intro v hv
     rcases List.mem_append.1 hv with hv|hv
     ·
      exact⟨by simp[(h2 v hv).1],(h2 v hv).2⟩
     ·
      simp at hv;subst hv;exact⟨by simp,hc.1⟩
    ·
     intro v hv hn
     rcases List.mem_append.1 hv with hv|hv
     ·
      obtain⟨u,hu,hp⟩:=h3 v hv hn
      exact⟨u,by simp[hu],hp⟩
     ·
      simp at hv;subst hv;exact⟨v,by simp,List.prefix_refl v⟩
    ·
     intro u hu0 v hv0 hp
     rcases List.mem_append.1 hu0 with hu|hu <;> rcases List.mem_append.1 hv0 with hv|hv
     ·
      exact h4 u hu v hv hp
     ·
      have e:v=w:=by simpa using hv
      exact absurd (e ▸ hp) (hno u hu)
     ·
      have e:u=w:=by simpa using hu
      have h5:=hnb v hv
      rw[zh1 w v (e ▸ hp)] at h5
      cases h5
     ·
      simp at hu hv;rw[hu,hv]
  ·
   intro u hu v hv
   rcases List.mem_append.1 hu with hu|hu
   ·
    exact hl u hu v (by simp[hv])
   ·
    simp at hu;subst hu;exact hr'.1 v hv
theorem zl8 {l:List (List Int)}(h:l.Pairwise (fun a b=>ltW b a=false)):zeJ l (zdb [] l):=by
 have:=zgQ l [] [] ⟨by simp,by simp,by simp,by simp⟩ h (by simp)
 simpa using this.mask
theorem zeJ.perm {l l' o:List (List Int)}(hp:∀ w,w∈l↔w∈l')(h:zeJ l o):zeJ l' o:=by
 refine⟨h.1,fun w=>(h.2 w).trans ?_⟩
 unfold zky
 constructor
 ·
  rintro⟨h1,h2,h3⟩;exact⟨(hp w).1 h1,h2,fun u hu=>h3 u ((hp u).2 hu)⟩
 ·
  rintro⟨h1,h2,h3⟩;exact⟨(hp w).2 h1,h2,fun u hu=>h3 u ((hp u).1 hu)⟩
def znu (w:List Int):List (List Int)→List (List Int)
 | []=>[w]
 | u::r=>if ltW u w then u::znu w r else w::u::r
theorem ziD (w v:List Int):∀ o,v∈znu w o↔v=w∨v∈o
 | []=>by simp[znu]
 | u::r=>by
  rw[znu]
  split
  ·
   rw[List.mem_cons,ziD w v r,List.mem_cons]
   constructor
   ·
    rintro (h|h|h) <;> simp[h]
   ·
    rintro (h|h|h) <;> simp[h]
  ·
   simp
theorem zgR (w:List Int):∀ o:List (List Int),o.Pairwise (fun a b=>ltW a b=true)→w ∉ o→(znu w o).Pairwise (fun a b=>ltW a b=true)
 | [],_,_=>by simp[znu]
 | u::r,h,hn=>by
  have h':=List.pairwise_cons.1 h
  rw[znu]
  split
  ·
   rename_i hlt
   rw[List.pairwise_cons]
   refine⟨fun v hv=>?_,zgR w r h'.2 (fun hx=>hn (by simp[hx]))⟩
   rcases (ziD w v r).1 hv with e|hv
   ·
    rw[e];exact hlt
   ·
    exact h'.1 v hv
  ·
   rename_i hlt
   have hwu:ltW w u=true:=by
    cases hx:ltW w u with
    | true=>rfl
    | false=>exact absurd (by simp[ze6 w u hx (by simpa using hlt)]) hn
   rw[List.pairwise_cons]
   refine⟨fun v hv=>?_,h⟩
   rcases List.mem_cons.1 hv with e|hv
   ·
    rw[e];exact hwu
   ·
    exact zdo _ _ _ hwu (h'.1 v hv)
def zoS (l:List (List Int))(i:Nat):Bool:=
 decide ((l.getD i [])≠[])&&(List.range l.length).all fun k=> !(decide (k≠i)&&decide ((l.getD k [])≠[])&&zdH (l.getD i []) (l.getD k [])&&(decide ((l.getD k []).length<(l.getD i []).length)||decide (k<i)))
def rOf (l:List (List Int)):Nat→List (List Int)
 | 0=>[]
 | n+1=>if zoS l n then znu (l.getD n []) (rOf l n) else rOf l n
theorem znv (l:List (List Int))(i:Nat)(hi:i<l.length):zoS l i=true↔zky l (l.getD i [])∧∀ k,k<i→l.getD k []≠l.getD i []:=by
 have hget:∀ k,k<l.length→l.getD k []∈l:=fun k hk=>by
  rw[List.getD_eq_getElem?_getD,List.getElem?_eq_getElem hk];exact List.getElem_mem hk
 unfold zoS zky
 simp only[Bool.and_eq_true,decide_eq_true_eq,List.all_eq_true,List.mem_range,Bool.not_eq_true',Bool.and_eq_false_iff,decide_eq_false_iff_not,Bool.or_eq_false_iff]
 constructor
 ·
  rintro⟨hn,h⟩
  have key:∀ k,k<l.length→k≠i→l.getD k []≠[]→l.getD k [] <+: l.getD i []→¬ ((l.getD k []).length<(l.getD i []).length)∧¬ k<i:=by
   intro k hk hki hkn hp
   rcases h k hk with ((h1|h1)|h1)|h1
   ·
    exact absurd hki h1
   ·
    exact absurd hkn h1
   ·
    rw[(zdI _ _).2 hp] at h1;cases h1
   ·
    exact h1
  refine⟨⟨hget i hi,hn,fun u hu hun hp=>?_⟩,fun k hk e=>?_⟩
  ·
   obtain⟨k,hk,e⟩:=List.getElem_of_mem hu
   have e':l.getD k []=u:=by rw[List.getD_eq_getElem?_getD,List.getElem?_eq_getElem hk];exact e
   by_cases hki:k=i
   ·
    subst hki;exact e'.symm
   ·
    have h5:=(key k hk hki (by rw[e'];exact hun) (by rw[e'];exact hp)).1
    rw[e'] at h5
    exact hp.eq_of_length_le (by omega)
  ·
   exact (key k (by omega) (by omega) (by rw[e];exact hn) (by rw[e];exact List.prefix_refl _)).2 hk
 ·
  rintro⟨⟨_,hn,hl⟩,hf⟩
  refine⟨hn,fun k hk=>?_⟩
  by_cases hki:k=i
  ·
   exact .inl (.inl (.inl (fun h=>h hki)))
  by_cases hkn:l.getD k []=[]
  ·
   exact .inl (.inl (.inr (fun h=>h hkn)))
  cases hb:zdH (l.getD i []) (l.getD k []) with
  | false=>exact .inl (.inr rfl)
  | true =>
   have e:=hl _ (hget k hk) hkn ((zdI _ _).1 hb)
   exact .inr ⟨by rw[e];omega,fun h=>hf k h e⟩
theorem zpw (l:List (List Int)):∀ n,n≤l.length→(rOf l n).Pairwise (fun a b=>ltW a b=true)∧∀ w,w∈rOf l n↔zky l w∧∃ k,k<n∧l.getD k []=w
 | 0,_=>⟨by simp[rOf],by simp[rOf]⟩
 | n+1,hn=>by
  obtain⟨h1,h2⟩:=zpw l n (by omega)
  have hk:=znv l n (by omega)
  rw[rOf]
  cases hx:zoS l n with
  | true =>
   rw[hx] at hk
   obtain⟨hl,hf⟩:=hk.1 rfl
   refine⟨zgR _ _ h1 (fun hm=>?_),fun w=>?_⟩
   ·
    obtain⟨_,k,hk1,hk2⟩:=(h2 _).1 hm
    exact hf k hk1 hk2
   ·
    show w∈znu (l.getD n []) (rOf l n)↔_
    rw[ziD,h2]
    constructor
    ·
     rintro (rfl|⟨hw,k,hk1,hk2⟩)
     ·
      exact⟨hl,n,by omega,rfl⟩
     ·
      exact⟨hw,k,by omega,hk2⟩
    ·
     rintro⟨hw,k,hk1,hk2⟩
     by_cases e:k=n
     ·
      subst e;exact .inl hk2.symm
     ·
      exact .inr ⟨hw,k,by omega,hk2⟩
  | false =>
   refine⟨h1,fun w=>?_⟩
   show w∈rOf l n↔_
   rw[h2]
   constructor
   ·
    rintro⟨hw,k,hk1,hk2⟩;exact⟨hw,k,by omega,hk2⟩
   ·
    rintro⟨hw,k,hk1,hk2⟩
    by_cases e:k=n
    ·
     subst e
     subst hk2
     -- it is least,but not kept: it stands further ahead
     have:¬ ∀ j,j<k→l.getD j []≠l.getD k []:=fun hf=>by
      have:=hk.2 ⟨hw,hf⟩
      rw[hx] at this;cases this
     obtain⟨j,hj⟩:=Classical.not_forall.1 this
     obtain⟨hj1,hj2⟩:=Classical.not_imp.1 hj
     exact⟨hw,j,hj1,Classical.not_not.1 hj2⟩
    ·
     exact⟨hw,k,by omega,hk2⟩
theorem zlp (l:List (List Int)):zeJ l (rOf l l.length):=by
 obtain⟨h1,h2⟩:=zpw l l.length (Nat.le_refl _)
 refine⟨h1,fun w=>(h2 w).trans ⟨fun h=>h.1,fun h=>⟨h,?_⟩⟩⟩
 obtain⟨k,hk,e⟩:=List.getElem_of_mem h.1
 exact⟨k,hk,by rw[List.getD_eq_getElem?_getD,List.getElem?_eq_getElem hk];exact e⟩
theorem znw {l s:List (List Int)}(hp:∀ w,w∈s↔w∈l)(hs:s.Pairwise (fun a b=>ltW b a=false)):zdb [] s=rOf l l.length:=
 ((zl8 hs).perm hp).one (zlp l)
end
section
open Go.RowKit
def zoG (x:Int):Value:=.int .i64 x
def zcb (x:Int):Prop:=-9223372036854775808≤x∧x≤9223372036854775807
def zar (w:World)(v:Value)(l:List Int):Prop:=Seg w v 1 l.length (l.map zoG)∧∀ x∈l,zcb x
theorem zar.keep {w w':World}{v:Value}{l:List Int}(h:zar w v l)(hk:∀ p u,w.cell? p=some u→w'.cell? p=some u):zar w' v l:=⟨h.1.keep hk,h.2⟩
theorem zar.below {w w':World}{v:Value}{l:List Int}(h:zar w v l)(hb:Below w.heap.size w w'):zar w' v l:=h.keep (zaa hb)
theorem zar.open {w:World}{v:Value}{l:List Int}(h:zar w v l) :
  l.length≤140737488355328∧∃ a cap,v= .slice a l.length cap∧(a=none→cap=0)∧∀ k x,l[k]?=some x→zcb x∧∃ b o,a=some ⟨b,o,none⟩∧w.cell? ⟨b,o+k,none⟩=some (.int .i64 x):=by
 obtain⟨⟨_,h2,a,cap,hv,h3,h4,h5,h6⟩,hl⟩:=h
 refine⟨h2,a,cap,hv,h5,fun k t hk=>⟨hl _ (List.mem_of_getElem? hk),h6 k _ ?_⟩⟩
 simp[hk,zoG]
theorem zbr (w:World):(sizeOf 3).run Tryz.prog w= .ok 1 w:=by kernel_rfl
theorem zdp:Tryz.prog.underlying 28=some (.slice 3):=Tryz.underlying28
theorem zoT:(Tryz.prog.info? 3).map (fun i=>(i.zero,i.size,i.bytes))=some (some (.int .i64 0),1,8):=by kernel_rfl
def zb0 (w:World)(base:Nat)(v:Value)(l:List Int):Prop:=w.ownsRow base 3 1 v l.length (l.map zoG)
theorem zb0.ints {w:World}{base:Nat}{v:Value}{l:List Int}(h:zb0 w base v l)(hn:l.length≤140737488355328)(hl:∀ x∈l,zcb x):zar w v l:=⟨zbo h hn,hl⟩
theorem zb0.form {w:World}{base:Nat}{v:Value}{l:List Int}(h:zb0 w base v l):∃ a c,v= .slice a l.length c:=by
 rcases h.2 with ⟨h1,h2⟩|⟨g,cap,cur,hv,-⟩
 ·
  exact⟨none,0,by rw[h1,h2]⟩
 ·
  exact⟨_,_,hv⟩
theorem zkz {w:World}{base:Nat}{v x:Value}{l m:List Int}(h:zb0 w base v l)(hx:zar w x m)(hlen:l.length+m.length≤17592186044416)(hbase:base≤w.heap.size) :
  ∃ v' w',(Builtin.append_ #[28,28] 28 #[v,x]).run Tryz.prog w= .ok v' w'∧zb0 w' base v' (l++m)∧w.grownBy w' v.ownBlock∧(v'.ownBlock=v.ownBlock∨v'.ownBlock=some w.heap.size):=by
 obtain⟨v',w',hr,hO,hg,hat⟩:=zbb (P:=Tryz.prog) w base 28 28 3 (.int .i64 0) 1 8 zdp zoT rfl (by decide) v x l.length m.length _ _ h hx.1
  (by intro u hu;obtain⟨c,-,rfl⟩:=List.mem_map.1 hu;rfl) (by omega) (by omega) hbase
 refine⟨v',w',hr,?_,hg,hat⟩
 unfold zb0
 rw[List.length_append,List.map_append]
 exact hO
theorem zh2 {w:World}{v:Value}{l:List Int}(h:zar w v l)(hl:l.length≤17592186044416) :
  Calls Tryz.prog 45 #[v] w fun e w'=>∃ v',e= .returned v'∧zb0 w' w.heap.size v' l∧Below w.heap.size w w':=by
 have H:=hid h
 obtain⟨hlen,a,cap,rfl,hnil,-⟩:=h.open
 obtain⟨n,HN⟩:∃ n,Hid (n=l.length):=⟨_,rfl⟩
 rw[←HN.out] at hlen H hl ⊢
 clear h
 cases a with
 | none =>
  have:=hnil rfl
  have HE:Hid (l=[]):=List.eq_nil_of_length_eq_zero (by have:=HN.out;obtain⟨-,-,a',c',e,h1,-⟩:=H.out.1;cases e;omega)
  clear hlen hl
  go_enter Tryz.func45,Tryz.ntmps45
  have eqn:=fun W a n c n' c'=>Lib.run_eql_slice_nil (P:=Tryz.prog) W 28 _ a n c n' c' zdp
  go_wp2
  go_ret
  refine⟨_,rfl,?_,Below.refl _ _⟩
  rw[HE.out]
  exact World.ownsRow_nil _ _ _ _
 | some ad =>
  have hO:zb0 (w.alloc (.cells #[] 3)) w.heap.size (.slice (some ⟨w.heap.size,0,none⟩) 0 0) []:=by
   exact World.ownsRow_made (base:=w.heap.size) (e:=3) (size:=1) w #[] 0 (Nat.le_refl _) (by unfold maxLen;omega) rfl
  obtain⟨v',w',hr,hO',hg,-⟩:=zkz hO (H.out.below ((Below.refl _ _).alloc (Nat.le_refl _) _)) (by rw[←HN.out];simp;omega) (by simp)
  have hg':Below w.heap.size w w':=((Below.refl w.heap.size w).alloc (Nat.le_refl _) (.cells #[] 3)).grown hg (by simp) (by intro q e;simp[Value.ownBlock] at e;omega)
  have HO:=hid hO'
  have HG:=hid hg'
  clear hO' hg' hg hO
  go_enter Tryz.func45,Tryz.ntmps45
  have eqn:=fun W a n c n' c'=>Lib.run_eql_slice_nil (P:=Tryz.prog) W 28 _ a n c n' c' zdp
  go_wp2_with (at_builtin;refine zaf rfl _ _ _ rfl _ _ rfl rfl hr ?_)
  go_ret
  exact⟨_,rfl,HO.out,HG.out⟩
/-! Two lists,from a place on -/
theorem zbS {α:Type}{l:List α}{i:Nat}{x:α}(h:l[i]?=some x):l.drop i=x::l.drop (i+1):=by
 obtain⟨hl,e⟩:=List.getElem?_eq_some_iff.1 h
 rw[List.drop_eq_getElem_cons hl,e]
theorem zdJ {l:List Int}{n i:Nat}(hn:n=l.length)(h:i<n):∃ x,l[i]?=some x:=⟨_,List.getElem?_eq_getElem (by omega)⟩
theorem zpU {l m:List Int}{i:Nat}{x y:Int}(hx:l[i]?=some x)(hy:m[i]?=some y):(l.drop i=m.drop i)↔x=y∧l.drop (i+1)=m.drop (i+1):=by
 rw[zbS hx,zbS hy,List.cons.injEq]
theorem zh3 {w:World}{v u:Value}{l m:List Int}(h:zar w v l)(hu:zar w u m) :
  Calls Tryz.prog 78 #[v,u] w fun e w'=>e= .returned (.bool (decide (l=m)))∧zd8 w w':=by
 obtain⟨hl,a,c,rfl,-,hat⟩:=h.open
 obtain⟨hm,a2,c2,rfl,-,hbt⟩:=hu.open
 obtain⟨n,HN⟩:∃ n,Hid (n=l.length):=⟨_,rfl⟩
 obtain⟨n2,HN2⟩:∃ n,Hid (n=m.length):=⟨_,rfl⟩
 rw[←HN.out] at hl ⊢
 rw[←HN2.out] at hm ⊢
 obtain⟨z,HZ⟩:∃ z,Hid (z=decide (l=m)):=⟨_,rfl⟩
 rw[←HZ.out]
 have HAT:=hid hat
 have HBT:=hid hbt
 clear hat hbt h hu
 by_cases hnn:n=n2
 ·
  subst hnn
  go_enter Tryz.func78,Tryz.ntmps78
  go_wp2_with fail
  go_loopw [13] (fun v5 wr=>∃ i:Nat,v5= .int .i64 i∧i≤n∧Hid (z=decide (l.drop i=m.drop i))∧(∃ k,wr=w.drewN k)) (fun v5 _=>n - (intOf v5).toNat)
  case atStart=>exact⟨0,rfl,by omega,by rw[Hid,HZ.out];simp,0,rfl⟩
  case round =>
   obtain⟨i,rfl,hi,HI,kw,rfl⟩:=hrel
   by_cases h1:i<n
   ·
    obtain⟨x,hxi⟩:=zdJ HN.out h1
    obtain⟨y,hyi⟩:=zdJ HN2.out h1
    obtain⟨hx64,b,o,ha,g0⟩:=HAT.out i x hxi
    obtain⟨hy64,b2,o2,ha2,g2⟩:=HBT.out i y hyi
    have HC:=hid (zpU hxi hyi)
    have hix:=zag Tryz.underlying28 zbr ha i h1 (cap:=c)
    have hix2:=zag Tryz.underlying28 zbr ha2 i h1 (cap:=c2)
    clear hxi hyi ha ha2
    by_cases hxy:x=y
    ·
     have HC1:Hid (z=decide (l.drop (i+1)=m.drop (i+1))):=by
      rw[Hid,HI.out,decide_eq_decide,HC.out];simp[hxy]
     have hb1:(x != y)=false:=by simpa using hxy
     have hb2:(x == y)=true:=by simpa using hxy
     have HXY:=hid hxy
     clear hxy
     go_wp2_with fail
     go_quiet (fail)
     go_wp2_with fail
     go_roundw
     case rel=>exact⟨i+1,by go_num,h1,HC1.out,_,rfl⟩
     case measure=>simp[intOf];omega
    ·
     have HC1:Hid (z=false):=by
      rw[Hid,HI.out,decide_eq_false_iff_not,HC.out];simp[hxy]
     have hb1:(x != y)=true:=by simpa using hxy
     have hb2:(x == y)=false:=by simpa using hxy
     have HXY:=hid hxy
     clear hxy
     go_wp2_with fail
     go_quiet (fail)
     go_wp2_with fail
     go_ret
     exact⟨by rw[HC1.out];first|done|rfl,_,World.drewN_drewN _ _ _⟩
   ·
    obtain rfl:i=n:=by omega
    have HC1:Hid (z=true):=by
     rw[Hid,HI.out,List.drop_eq_nil_of_le (by rw[←HN.out];omega),List.drop_eq_nil_of_le (by rw[←HN2.out];omega)];simp
    go_wp2_with fail
    go_ret
    exact⟨by rw[HC1.out];first|done|rfl,_,rfl⟩
 ·
  have HC1:Hid (z=false):=by
   rw[Hid,HZ.out,decide_eq_false_iff_not];rintro rfl;exact hnn (by rw[HN.out,HN2.out])
  have e1:decide ((n:Int)=n2)=false:=decide_eq_false (by omega)
  have e2:((n:Int) == n2)=false:=by simp;omega
  have e3:(n == n2)=false:=by simp;omega
  clear hnn
  go_enter Tryz.func78,Tryz.ntmps78
  go_wp2_with fail
  go_ret
  exact⟨by rw[HC1.out];first|done|rfl,0,rfl⟩
/-! The order of ways -/
def zjA:List Int→List Int→Int
 | [],[]=>0
 | [],_::_=> -1
 | _::_,[]=>1
 | x::a,y::b=>if x<y then -1 else if y<x then 1 else zjA a b
theorem zlq:∀ a b,zjA a b<0↔ltW a b=true
 | [],[]=>by simp[zjA,ltW]
 | [],_::_=>by simp[zjA,ltW]
 | _::_,[]=>by simp[zjA,ltW]
 | x::a,y::b=>by
  have ih:=zlq a b
  simp only[zjA,ltW]
  by_cases h1:x<y
  ·
   rw[if_pos h1,if_neg (by omega)];simp[h1]
  ·
   rw[if_neg h1]
   by_cases h2:y<x
   ·
    rw[if_pos h2,if_neg (by omega)];simp;omega
   ·
    rw[if_neg h2,if_pos (by omega)];exact ih
theorem zpV (a b:List Int):decide (zjA a b<0)=ltW a b:=by
 rw[Bool.eq_iff_iff,decide_eq_true_iff];exact zlq a b
theorem zpW {l m:List Int}{i:Nat}{x y:Int}(hx:l[i]?=some x)(hy:m[i]?=some y):zjA (l.drop i) (m.drop i)=if x<y then -1 else if y<x then 1 else zjA (l.drop (i+1)) (m.drop (i+1)):=by
 rw[zbS hx,zbS hy,zjA]
theorem zjB {l m:List Int}{i:Nat}(hx:l.length≤i):zjA (l.drop i) (m.drop i)=if i<m.length then -1 else 0:=by
 rw[List.drop_eq_nil_of_le hx]
 split
 ·
  rename_i h;rw[List.drop_eq_getElem_cons h];rfl
 ·
  rw[List.drop_eq_nil_of_le (by omega)];rfl
theorem znx {l m:List Int}{i:Nat}(hx:i<l.length)(hy:m.length≤i):zjA (l.drop i) (m.drop i)=1:=by
 rw[List.drop_eq_nil_of_le hy,List.drop_eq_getElem_cons hx];rfl
theorem zef (x y:Int)(w:World) :
  Calls Tryz.prog 77 #[.int .i64 x,.int .i64 y] w fun e w'=>e= .returned (.int .i64 (if x<y then -1 else if y<x then 1 else 0))∧w=w':=by
 by_cases h1:x<y
 ·
  rw[if_pos h1]
  have e2:¬ y<x:=by omega
  go_enter Tryz.func77,Tryz.ntmps77
  go_wp2
  go_ret
  exact⟨rfl,rfl⟩
 ·
  rw[if_neg h1]
  by_cases h2:y<x
  ·
   rw[if_pos h2]
   go_enter Tryz.func77,Tryz.ntmps77
   go_wp2
   go_ret
   exact⟨rfl,rfl⟩
  ·
   rw[if_neg h2]
   go_enter Tryz.func77,Tryz.ntmps77
   go_wp2
   go_ret
   exact⟨rfl,rfl⟩
theorem zjC {w:World}{v u:Value}{l m:List Int}(h:zar w v l)(hu:zar w u m) :
  Calls Tryz.prog 43 #[v,u] w fun e w'=>e= .returned (.int .i64 (zjA l m))∧w'=w:=by
 obtain⟨hl,a,c,rfl,-,hat⟩:=h.open
 obtain⟨hm,a2,c2,rfl,-,hbt⟩:=hu.open
 obtain⟨n,HN⟩:∃ n,Hid (n=l.length):=⟨_,rfl⟩
 obtain⟨n2,HN2⟩:∃ n,Hid (n=m.length):=⟨_,rfl⟩
 rw[←HN.out] at hl ⊢
 rw[←HN2.out] at hm ⊢
 obtain⟨z,HZ⟩:∃ z,Hid (z=zjA l m):=⟨_,rfl⟩
 rw[←HZ.out]
 have HAT:=hid hat
 have HBT:=hid hbt
 clear hat hbt h hu
 go_enter Tryz.func43,Tryz.ntmps43
 go_wp2_with fail
 go_loop [11] (fun v5=>∃ i:Nat,v5= .int .i64 i∧i≤n∧i≤n2∧Hid (z=zjA (l.drop i) (m.drop i))) (fun v5=>n - (intOf v5).toNat)
 case atStart=>exact⟨0,rfl,by omega,by omega,by rw[Hid,HZ.out];simp⟩
 case round =>
  obtain⟨i,rfl,hi,hi2,HI⟩:=hrel
  by_cases h1:i<n
  ·
   obtain⟨x,hxi⟩:=zdJ HN.out h1
   obtain⟨hx64,b,o,ha,g0⟩:=HAT.out i x hxi
   have hix:=zag Tryz.underlying28 zbr ha i h1 (cap:=c)
   by_cases h2:i<n2
   ·
    obtain⟨y,hyi⟩:=zdJ HN2.out h2
    obtain⟨hy64,b2,o2,ha2,g2⟩:=HBT.out i y hyi
    have HC:=hid (zpW hxi hyi)
    have hix2:=zag Tryz.underlying28 zbr ha2 i h2 (cap:=c2)
    have hge:¬ (n2≤i):=by omega
    clear hxi hyi ha ha2
    obtain⟨q,HQ⟩:∃ q,Hid (q=(if x<y then -1 else if y<x then 1 else 0:Int)):=⟨_,rfl⟩
    by_cases hq:q=0
    ·
     have HC1:Hid (z=zjA (l.drop (i+1)) (m.drop (i+1))):=by
      have e1:¬ x<y:=fun h=>by have:=HQ.out;rw[if_pos h] at this;omega
      have e2:¬ y<x:=fun h=>by have:=HQ.out;rw[if_neg e1,if_pos h] at this;omega
      rw[Hid,HI.out,HC.out,if_neg e1,if_neg e2]
     subst hq
     go_wp2_with (go_at_call 77;refine (zef x y _).mono ?_;rintro e w' ⟨rfl,rfl⟩;rw[←HQ.out])
     go_round
     case rel=>exact⟨i+1,by go_num,h1,h2,HC1.out⟩
     case measure=>simp[intOf];omega
    ·
     have HC1:Hid (z=q):=by
      rw[Hid,HI.out,HC.out,HQ.out]
      by_cases e1:x<y
      ·
       rw[if_pos e1,if_pos e1]
      ·
       rw[if_neg e1,if_neg e1]
       by_cases e2:y<x
       ·
        rw[if_pos e2,if_pos e2]
       ·
        exact absurd (by rw[HQ.out,if_neg e1,if_neg e2]) hq
     have hb1:(q != 0)=true:=by simpa using hq
     have hb2:(q == 0)=false:=by simpa using hq
     clear hq
     go_wp2_with (go_at_call 77;refine (zef x y _).mono ?_;rintro e w' ⟨rfl,rfl⟩;rw[←HQ.out])
     go_ret
     exact⟨by rw[HC1.out];first|done|rfl,rfl⟩
   ·
    have HC1:Hid (z=1):=by
     rw[Hid,HI.out,znx (by rw[←HN.out];exact h1) (by rw[←HN2.out];omega)]
    have hge:n2≤i:=by omega
    clear hxi ha
    go_wp2_with fail
    go_ret
    exact⟨by rw[HC1.out];first|done|rfl,rfl⟩
  ·
   obtain rfl:i=n:=by omega
   by_cases h2:i<n2
   ·
    have HC1:Hid (z= -1):=by
     rw[Hid,HI.out,zjB (by rw[←HN.out];omega),if_pos (by rw[←HN2.out];exact h2)]
    go_wp2_with fail
    go_ret
    exact⟨by rw[HC1.out];first|done|rfl,rfl⟩
   ·
    have HC1:Hid (z=0):=by
     rw[Hid,HI.out,zjB (by rw[←HN.out];omega),if_neg (by rw[←HN2.out];exact h2)]
    go_wp2_with fail
    go_ret
    exact⟨by rw[HC1.out];first|done|rfl,rfl⟩
theorem zar.h {w:World}{a:Option Addr}{n cap:Nat}{l:List Int}(h:zar w (.slice a n cap) l)(hn:n=l.length)(j:Nat)(hj:j≤n) :
  ∃ a' cap',(∀ W,(Instr.slice 28 (.slice a n cap) none (some (.int .i64 (j:Int))) none).run Tryz.prog W= .ok (.slice a' j cap') W)∧zar w (.slice a' j cap') (l.take j):=by
 subst hn
 have hcap:l.length≤cap:=by obtain⟨⟨_,_,a',cap',hv,h3,_⟩,-⟩:=h;cases hv;exact h3
 have hr:=fun W=>zdz (P:=Tryz.prog) zdp zbr a l.length cap j (by omega) W
 have hs:=Seg.sub h.1 0 j (by omega) hj
 unfold sliced at hr hs
 refine⟨_,_,hr,⟨?_,fun x hx=>h.2 x (List.mem_of_mem_take hx)⟩⟩
 rw[List.length_take,Nat.min_eq_left (by omega),List.map_take]
 simpa using hs
theorem zar.l {w:World}{a:Option Addr}{n cap:Nat}{l:List Int}(h:zar w (.slice a n cap) l)(hn:n=l.length)(i:Nat)(hi:i≤n) :
  ∃ a' cap',(∀ W,(Instr.slice 28 (.slice a n cap) (some (.int .i64 (i:Int))) none none).run Tryz.prog W= .ok (.slice a' (n - i) cap') W)∧zar w (.slice a' (n - i) cap') (l.drop i):=by
 subst hn
 have hr:=fun W=>zgA (P:=Tryz.prog) zdp zbr a l.length cap i (by omega) W
 have hs:=Seg.sub h.1 i l.length hi (Nat.le_refl _)
 unfold sliced at hr hs
 refine⟨_,_,hr,⟨?_,fun x hx=>h.2 x (List.mem_of_mem_drop hx)⟩⟩
 rw[List.length_drop,List.map_drop]
 rw[List.take_of_length_le (by simp)] at hs
 simpa using hs
theorem zkA {w:World}{v u:Value}{l m:List Int}(h:zar w v l)(hu:zar w u m) :
  Calls Tryz.prog 44 #[v,u] w fun e w'=>e= .returned (.bool (zdH l m))∧zd8 w w':=by
 have H:=hid h
 have HU:=hid hu
 obtain⟨hl,a,c,rfl,-,-⟩:=h.open
 obtain⟨hm,a2,c2,rfl,-,-⟩:=hu.open
 obtain⟨n,HN⟩:∃ n,Hid (n=l.length):=⟨_,rfl⟩
 obtain⟨n2,HN2⟩:∃ n,Hid (n=m.length):=⟨_,rfl⟩
 rw[←HN.out] at hl H ⊢
 rw[←HN2.out] at hm HU ⊢
 obtain⟨z,HZ⟩:∃ z,Hid (z=zdH l m):=⟨_,rfl⟩
 rw[←HZ.out]
 clear h hu
 by_cases hn:n2≤n
 ·
  obtain⟨a',c',hsl,hI⟩:=H.out.h HN.out n2 hn
  have HI:=hid hI
  have HZ2:Hid (decide (l.take n2=m)=z):=by
   rw[Hid,HZ.out,zdH,←HN2.out,←HN.out,decide_eq_true hn,Bool.true_and]
  clear hI
  go_enter Tryz.func44,Tryz.ntmps44
  go_wp2_with (go_at_call 78;refine (zh3 HI.out HU.out).mono ?_;rintro e w' ⟨rfl,kw,rfl⟩;rw[HZ2.out])
  go_ret
  exact⟨rfl,_,rfl⟩
 ·
  have HZ2:Hid (z=false):=by
   rw[Hid,HZ.out,zdH,←HN2.out,←HN.out,decide_eq_false hn,Bool.false_and]
  have hn2:¬ ((n2:Int)≤n):=by omega
  go_enter Tryz.func44,Tryz.ntmps44
  go_wp2_with fail
  go_ret
  exact⟨by rw[HZ2.out];first|done|rfl,0,rfl⟩
end
end Go.Proofs.YtdpnmdkbdibkpaaGreatDoor
