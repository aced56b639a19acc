/- Parts of a proof: texts of the author, merged. No condition of their own. -/
import Derived.Test.YtpckoeicbjfnhaaGreatDoorY01
import Derived.Test.YtpckoeicbjfnhaaGreatDoorY02
import Derived.Test.YtpckoeicbjfnhaaGreatDoorY08
import Derived.Test.YtpckoeicbjfnhaaGreatDoorY09
import Derived.Test.YtpckoeicbjfnhaaGreatDoorY11
import Derived.Test.YtpckoeicbjfnhaaGreatDoorY13
import Derived.Test.YtpckoeicbjfnhaaGreatDoorY15
import Derived.Deep.AppendSrc
import Derived.Maps.AppendAt
import Derived.OwnWalk
import Derived.OwnWalkIn
import Derived.RangeFuncNested
import Derived.RangeFuncCalls
namespace Go.Proofs.YtpckoeicbjfnhaaGreatDoor
set_option maxRecDepth 100000
set_option maxHeartbeats 16000000
section
open Go.RowKit
def zdd (k:Int)(l:List UInt8):Nat × Nat:=if zcI (zas k) l=true then (zaE k (if zas k=0 then (zaO l).1 else zeL l),0) else (0,12)
theorem zgu {k:Int}(h:zac k=true):zas k=0∨zas k=1∨zas k=5:=by
 have h':1≤k∧k≤14:=of_decide_eq_true h
 unfold zas
 rw[if_neg (by omega),if_neg (by omega)]
 by_cases h1:12≤k
 ·
  rw[if_pos h1];omega
 ·
  rw[if_neg h1]
  by_cases h2:9≤k
  ·
   rw[if_pos h2];omega
  ·
   rw[if_neg h2];omega
theorem zpl {k:Int}(h:zac k=true):zaM k=true:=by unfold zac at h;unfold zaM;simp at h ⊢;omega
theorem zdx {k:Int}(hk:zac k=true){w:World}{v:Value}{l:List UInt8}(h:zal w v l) :
  Calls Tryz.prog 131 #[.int .i64 k,v] w fun e w'=>e= .returned (.tuple #[.int .u64 ((zdd k l).1:Nat),.int .u8 ((zdd k l).2:Nat)])∧Below w.heap.size w w':=by
 have HK:=hid hk
 have HV:=hid h
 have HKW:=hid (zgu hk)
 obtain⟨hlen,a,cap,rfl,-,-,-,-⟩:=h.open
 obtain⟨n,HN⟩:∃ n,Hid (n=l.length):=⟨_,rfl⟩
 rw[←HN.out] at hlen HV ⊢
 obtain⟨x,c,HX⟩:∃ x c,Hid (zdd k l=(x,c)):=⟨_,_,rfl⟩
 rw[HX.out]
 have HX2:Hid ((x,c)=if zcI (zas k) l=true then (zaE k (if zas k=0 then (zaO l).1 else zeL l),0) else (0,12)):=HX.out.symm
 obtain⟨y,s,cv,HY⟩:∃ y s cv,Hid (zaO l=(y,s,cv)):=⟨_,_,_,rfl⟩
 rw[HY.out] at HX2
 have HVR:=hid fun (W:World) (hb:Below w.heap.size w W)=>zcf (HV.out.below hb)
 rw[HY.out] at HVR
 have HWB:=hid fun (W:World) (hb:Below w.heap.size w W)=>zqT (HV.out.below hb)
 obtain⟨z,HZ⟩:∃ z,Hid (zeL l=z):=⟨_,rfl⟩
 rw[HZ.out] at HX2 HWB
 have HKN:=hid fun W=>zaQ k W
 rw[hk] at HKN
 have HKWI:=hid fun W=>zgp k hk W
 have HFI:Hid (zcI (zas k) l=if (zas k:Int)=0 then decide (cv=0∧s=n) else if (zas k:Int)=1 then decide (n=8) else if (zas k:Int)=5 then decide (n=4) else decide ((zas k:Int)=2)):=by
  rw[Hid,zcI,HY.out,HN.out]
 clear h hk
 rcases HKW.out with h0|h0|h0
 ·
  rw[h0] at HX2 HFI HKWI
  have HWIDE:Hid ((if (0:Int)=1 then (8:Int) else if (0:Int)=5 then 4 else 0)=0):=rfl
  have HFI2:Hid (zcI ((0:Nat):Int) l=decide (cv=0∧s=n)):=by rw[HFI.out];rfl
  go_enter Tryz.func131,Tryz.ntmps131
  go_wp2_with fail
  refine (HKN.out _).mono ?_
  rintro e w1 ⟨rfl,hb1⟩
  have HB1:=hid hb1
  clear hb1
  go_wp2_with fail
  refine (HKWI.out _).mono ?_
  rintro e w2 ⟨rfl,hb2⟩
  have HB2:Hid (Below w.heap.size w w2):=zag HB1.out hb2 HB1.out.size
  clear hb2
  go_wp2_with fail
  refine (zcQ 0 (by decide) _).mono ?_
  rintro e w2' ⟨rfl,rfl⟩
  simp only[HWIDE.out]
  go_wp2_with fail
  refine (HVR.out _ HB2.out).mono ?_
  rintro e w3 ⟨rfl,rfl⟩
  by_cases hc:cv=0
  ·
   by_cases hs:s=n
   ·
    have HRES:Hid (x=zaE k y∧c=0):=by
     have h1:=HX2.out
     rw[HFI2.out,decide_eq_true (And.intro hc hs)] at h1
     simp only[if_true] at h1
     exact⟨congrArg Prod.fst h1,congrArg Prod.snd h1⟩
    subst hc
    have e1:((s:Int) != (n:Int))=false:=by simp;omega
    have e2:((s:Int) == (n:Int))=true:=by simp;omega
    have e3:(s != n)=false:=by simp;omega
    clear hs
    go_wp2_with fail
    refine (zcP HK.out _ _).mono ?_
    rintro e w4 ⟨rfl,hb4⟩
    have HB4:Hid (Below w.heap.size w w4):=zag HB2.out hb4 HB2.out.size
    clear hb4
    go_wp2_with fail
    go_ret2
    exact⟨by rw[HRES.out.1,HRES.out.2];first|done|rfl,HB4.out⟩
   ·
    have HRES:Hid (x=0∧c=12):=by
     have h1:=HX2.out
     rw[HFI2.out,decide_eq_false (fun h=>hs h.2),if_neg (by decide)] at h1
     exact⟨congrArg Prod.fst h1,congrArg Prod.snd h1⟩
    subst hc
    have e1:((s:Int) != (n:Int))=true:=by simp;omega
    have e2:((s:Int) == (n:Int))=false:=by simp;omega
    have e3:(s != n)=true:=by simp;omega
    clear hs
    go_wp2_with fail
    go_ret2
    exact⟨by rw[HRES.out.1,HRES.out.2];first|done|rfl,HB2.out⟩
  ·
   have HRES:Hid (x=0∧c=12):=by
    have h1:=HX2.out
    rw[HFI2.out,decide_eq_false (fun h=>hc h.1),if_neg (by decide)] at h1
    exact⟨congrArg Prod.fst h1,congrArg Prod.snd h1⟩
   have hcv:cv<256:=by
    rcases zcN l with ⟨a,b,h,-⟩|⟨d,h,h3⟩
    ·
     rw[HY.out] at h;cases h;omega
    ·
     rw[HY.out] at h;cases h;omega
   have e1:((cv:Int) != 0)=true:=by simp;exact hc
   have e2:((cv:Int) == 0)=false:=by simp;exact hc
   have e3:(cv != 0)=true:=by simp;exact hc
   clear hc
   go_wp2_with fail
   go_ret2
   exact⟨by rw[HRES.out.1,HRES.out.2];first|done|rfl,HB2.out⟩
 ·
  rw[h0] at HX2 HFI HKWI
  have HWIDE:Hid ((if (1:Int)=1 then (8:Int) else if (1:Int)=5 then 4 else 0)=8):=rfl
  have HFI2:Hid (zcI ((1:Nat):Int) l=decide (n=8)):=by rw[HFI.out];rfl
  go_enter Tryz.func131,Tryz.ntmps131
  go_wp2_with fail
  refine (HKN.out _).mono ?_
  rintro e w1 ⟨rfl,hb1⟩
  have HB1:=hid hb1
  clear hb1
  go_wp2_with fail
  refine (HKWI.out _).mono ?_
  rintro e w2 ⟨rfl,hb2⟩
  have HB2:Hid (Below w.heap.size w w2):=zag HB1.out hb2 HB1.out.size
  clear hb2
  go_wp2_with fail
  refine (zcQ 1 (by decide) _).mono ?_
  rintro e w2' ⟨rfl,rfl⟩
  simp only[HWIDE.out]
  by_cases hs:n=8
  ·
   have HRES:Hid (x=zaE k z∧c=0):=by
    have h1:=HX2.out
    rw[HFI2.out,decide_eq_true hs,if_pos rfl,if_neg (by decide)] at h1
    exact⟨congrArg Prod.fst h1,congrArg Prod.snd h1⟩
   have e1:((n:Int) != 8)=false:=by simp;omega
   have e2:((n:Int) == 8)=true:=by simp;omega
   have e3:(n != 8)=false:=by simp;omega
   clear hs
   go_wp2_with fail
   refine (HWB.out _ HB2.out).mono ?_
   rintro e w3 ⟨rfl,rfl⟩
   go_wp2_with fail
   refine (zcP HK.out _ _).mono ?_
   rintro e w4 ⟨rfl,hb4⟩
   have HB4:Hid (Below w.heap.size w w4):=zag HB2.out hb4 HB2.out.size
   clear hb4
   go_wp2_with fail
   go_ret2
   exact⟨by rw[HRES.out.1,HRES.out.2];first|done|rfl,HB4.out⟩
  ·
   have HRES:Hid (x=0∧c=12):=by
    have h1:=HX2.out
    rw[HFI2.out,decide_eq_false hs,if_neg (by decide)] at h1
    exact⟨congrArg Prod.fst h1,congrArg Prod.snd h1⟩
   have e1:((n:Int) != 8)=true:=by simp;omega
   have e2:((n:Int) == 8)=false:=by simp;omega
   have e3:(n != 8)=true:=by simp;omega
   clear hs
   go_wp2_with fail
   go_ret2
   exact⟨by rw[HRES.out.1,HRES.out.2];first|done|rfl,HB2.out⟩
 ·
  rw[h0] at HX2 HFI HKWI
  have HWIDE:Hid ((if (5:Int)=1 then (8:Int) else if (5:Int)=5 then 4 else 0)=4):=rfl
  have HFI2:Hid (zcI ((5:Nat):Int) l=decide (n=4)):=by rw[HFI.out];rfl
  go_enter Tryz.func131,Tryz.ntmps131
  go_wp2_with fail
  refine (HKN.out _).mono ?_
  rintro e w1 ⟨rfl,hb1⟩
  have HB1:=hid hb1
  clear hb1
  go_wp2_with fail
  refine (HKWI.out _).mono ?_
  rintro e w2 ⟨rfl,hb2⟩
  have HB2:Hid (Below w.heap.size w w2):=zag HB1.out hb2 HB1.out.size
  clear hb2
  go_wp2_with fail
  refine (zcQ 5 (by decide) _).mono ?_
  rintro e w2' ⟨rfl,rfl⟩
  simp only[HWIDE.out]
  by_cases hs:n=4
  ·
   have HRES:Hid (x=zaE k z∧c=0):=by
    have h1:=HX2.out
    rw[HFI2.out,decide_eq_true hs,if_pos rfl,if_neg (by decide)] at h1
    exact⟨congrArg Prod.fst h1,congrArg Prod.snd h1⟩
   have e1:((n:Int) != 4)=false:=by simp;omega
   have e2:((n:Int) == 4)=true:=by simp;omega
   have e3:(n != 4)=false:=by simp;omega
   clear hs
   go_wp2_with fail
   refine (HWB.out _ HB2.out).mono ?_
   rintro e w3 ⟨rfl,rfl⟩
   go_wp2_with fail
   refine (zcP HK.out _ _).mono ?_
   rintro e w4 ⟨rfl,hb4⟩
   have HB4:Hid (Below w.heap.size w w4):=zag HB2.out hb4 HB2.out.size
   clear hb4
   go_wp2_with fail
   go_ret2
   exact⟨by rw[HRES.out.1,HRES.out.2];first|done|rfl,HB4.out⟩
  ·
   have HRES:Hid (x=0∧c=12):=by
    have h1:=HX2.out
    rw[HFI2.out,decide_eq_false hs,if_neg (by decide)] at h1
    exact⟨congrArg Prod.fst h1,congrArg Prod.snd h1⟩
   have e1:((n:Int) != 4)=true:=by simp;omega
   have e2:((n:Int) == 4)=false:=by simp;omega
   have e3:(n != 4)=true:=by simp;omega
   clear hs
   go_wp2_with fail
   go_ret2
   exact⟨by rw[HRES.out.1,HRES.out.2];first|done|rfl,HB2.out⟩
end
section
open Go.RowKit
theorem zk7 {P:Program}{w:World}{o:Oper}{a:Act}{K:Act→World→Prop}{Q:Exit→Act→World→Prop}(s x:Operand)(t u:TypeId)
  (ho:o.op= .call { callee:=.builtin .append,args:=#[s,x],argTypes:=#[t,u] }) (v xv:Value) (hs:a.eval s=v) (hx:a.eval x=xv) {v':Value} {w':World}
  (hr:(Builtin.append_ #[t,u] o.type #[v,xv]).run P w= .ok v' w') (h:K (a.put o.dst v') w'):o.wp P a w K Q:=by
 unfold Oper.wp execOp
 simp only[ho,resolve,invoke,builtin,Sem.run_bind,Sem.run_pure,Result.andThen_ok,List.map_toArray,List.map_cons,List.map_nil,hs,hx,hr]
 exact h
theorem zg3 {P:Program}{w:World}{ops:Array Oper}{rest:List Oper}{o:Oper}{a:Act}{Q:Exit→Act→World→Prop}(hgd:o.guard=none)(s x:Operand)(t u:TypeId)
  (ho:o.op= .call { callee:=.builtin .append,args:=#[s,x],argTypes:=#[t,u] }) (v xv:Value) (hs:a.eval s=v) (hx:a.eval x=xv) {v':Value} {w':World}
  (hr:(Builtin.append_ #[t,u] o.type #[v,xv]).run P w= .ok v' w') (h:wpList P ops Q rest (a.put o.dst v') w'):wpList P ops Q (o::rest) a w:=
 wpList_plain hgd fun _ hK=>zk7 s x t u ho v xv hs hx hr (hK _ _ h)
theorem zdy {F:Fence}{n:Nat}{P:Program}{w:World}{ops:Array Oper}{rest:List Oper}{o:Oper}{a:Act}{Q:Exit→Act→World→Prop}(hgd:o.guard=none)(s x:Operand)(t u:TypeId)
  (ho:o.op= .call { callee:=.builtin .append,args:=#[s,x],argTypes:=#[t,u] }) (v xv:Value) (hs:a.eval s=v) (hx:a.eval x=xv) {v':Value} {w':World}
  (hr:(Builtin.append_ #[t,u] o.type #[v,xv]).run P w= .ok v' w') (h:wpListIn F n P ops Q rest (a.put o.dst v') w'):wpListIn F n P ops Q (o::rest) a w:=by
 refine wpListIn_plain hgd fun K hK=>?_
 unfold Oper.wpIn
 refine⟨?_,?_⟩
 ·
  simp[Oper.about,ho,resolve,Target.leads,Sem.run_pure]
 ·
  rw[Oper.semAt_plain F _ _ (by rw[ho];intro c hc';cases hc')]
  simp[execOp,ho,resolve,invoke,builtin,hs,hx,hr,Result.andThen]
  exact hK _ _ h
end
section
open Go.RowKit Go.Shelf
attribute [local go_sem] Oper.semAt_some
def ziu (k:Int)(l:List UInt8):List Nat:=(zbP (zas k) l).map fun x=>(zdd k x).1
def zce (k:Int)(l:List UInt8):List Nat × Nat:=if (zaz (zas k) l).2=0 then (ziu k l,0) else ([],(zaz (zas k) l).2)
def zan (w:World)(base:Nat)(v:Value)(l:List Nat):Prop:=w.ownsRow base 107 1 v l.length (l.map zkV)
theorem zhZ:(Tryz.prog.info? 107).map (fun i=>(i.zero,i.size,i.bytes))=some (some (.int .u64 0),1,8):=by kernel_rfl
theorem zev:Tryz.prog.underlying 62=some (.slice 107):=Tryz.underlying62
theorem zan.form {w:World}{base:Nat}{v:Value}{l:List Nat}(h:zan w base v l):∃ a c,v= .slice a l.length c:=by
 rcases h.2 with ⟨h1,h2⟩|⟨g,cap,cur,hv,-⟩
 ·
  exact⟨none,0,by rw[h1,h2]⟩
 ·
  exact⟨_,_,hv⟩
theorem zan.later {w w':World}{base:Nat}{v:Value}{l:List Nat}(h:zan w base v l)(hb:Below w.heap.size w w'):zan w' base v l:=
 zaL h fun b _ _ he=>hb.block b (Array.getElem?_eq_some_iff.1 he).1
theorem zan.mono {W:World}{b b':Nat}{v:Value}{l:List Nat}(h:zan W b v l)(hb:b'≤b):zan W b' v l:=by
 refine⟨h.1,?_⟩
 rcases h.2 with h2|⟨g,cap,cur,hv,hg,h3⟩
 ·
  exact .inl h2
 ·
  exact .inr ⟨g,cap,cur,hv,by omega,h3⟩
theorem zan.words {w:World}{base:Nat}{v:Value}{l:List Nat}(h:zan w base v l)(hn:l.length≤140737488355328)(hl:∀ x∈l,x<2 ^ 64):zby w v l:=⟨zbQ h hn,hl⟩
theorem zan.one {W:World}{base:Nat}{v:Value}{l:List Nat}(h:zan W base v l)(y:Nat)(hn:l.length≤1099511627776)(hB:base≤W.heap.size) :
  ∃ v' w',(Builtin.append_ #[62,62] 62 #[v,.slice (some ⟨W.heap.size,0,none⟩) 1 1]).run Tryz.prog (W.alloc (.cells #[.int .u64 (y:Int)] 107))= .ok v' w'∧zan w' base v' (l++[y])∧W.grownBy w' v.ownBlock:=by
 have hA:Below W.heap.size W (W.alloc (.cells #[.int .u64 (y:Int)] 107)):=(Below.refl _ _).alloc (Nat.le_refl _) _
 have hx:Seg (W.alloc (.cells #[.int .u64 (y:Int)] 107)) (.slice (some ⟨W.heap.size,0,none⟩) 1 1) 1 1 [.int .u64 (y:Int)]:=zcA (Blk.new W [.int .u64 (y:Int)] _) 1 1 rfl (by omega)
 obtain⟨v',w',h1,h2,h3,-⟩:=zba (P:=Tryz.prog) _ base 62 62 107 (.int .u64 0) 1 8 zev zhZ rfl (by decide) v _ l.length 1 _ _ (h.later hA) hx (by intro u hu;simp at hu;subst hu;rfl) (by omega) (by omega) (by simp;omega)
 refine⟨v',w',h1,?_,?_⟩
 ·
  unfold zan
  rw[List.length_append,List.map_append]
  exact h2
 ·
  refine⟨h3.os,h3.tape,h3.output,Nat.le_trans (by simp) h3.size,fun k hk hr=>(h3.block k (by simp;omega) hr).trans (Below.heap_alloc W _ k hk)⟩
structure WA (w:World)(k:Int)(rec:Loop)(code:Nat)(lv:Value)(ws:List Nat)(bv:Value)(W:World):Prop where
 k0:Blk W (w.heap.size) [.int .i64 k] 3
 r0:Blk W (w.heap.size+1) [.slice none 0 0] 62
 r1:Blk W (w.heap.size+1+1) [.int .u8 code] 34
 lb:Blk W (w.heap.size+1+1+1) [lv] 62
 kb:Blk W (w.heap.size+1+1+1+1) [.int .i64 k] 3
 bb:Blk W (w.heap.size+1+1+1+1+1) [bv] 47
 D:W.heap[w.heap.size+1+1+1+1+1+1]?=some (.deferred (some []))
 L:W.heap[w.heap.size+1+1+1+1+1+1+1]?=some (.loop rec)
 own:zan W (w.heap.size+1+1+1+1+1+1+1+1) lv ws
 B:Below w.heap.size w W
theorem ze7 {W:World}{b:Nat}{o:Obj}(h:W.heap[b]?=some o):b<W.heap.size:=(Array.getElem?_eq_some_iff.1 h).1
theorem WA.below {w:World}{k:Int}{rec:Loop}{code:Nat}{lv:Value}{ws:List Nat}{bv:Value}{W W':World}(h:WA w k rec code lv ws bv W)(hb:Below W.heap.size W W'):WA w k rec code lv ws bv W':=
 ⟨h.k0.below hb,h.r0.below hb,h.r1.below hb,h.lb.below hb,h.kb.below hb,h.bb.below hb,(hb.block _ (ze7 h.D)).trans h.D,(hb.block _ (ze7 h.L)).trans h.L,h.own.later hb,h.B.trans (hb.mono h.B.size)⟩
theorem WA.put {w:World}{k:Int}{rec:Loop}{code:Nat}{lv:Value}{ws:List Nat}{bv:Value}{W:World}(h:WA w k rec code lv ws bv W)(rec':Loop) :
  WA w k rec' code lv ws bv (W.putObj (w.heap.size+1+1+1+1+1+1+1) (.loop rec')):=
 ⟨h.k0.put _ (by omega),h.r0.put _ (by omega),h.r1.put _ (by omega),h.lb.put _ (by omega),h.kb.put _ (by omega),h.bb.put _ (by omega),(World.putObj_heap_other (by omega)).trans h.D,
  World.putObj_heap_same (ze7 h.L),zaL h.own (fun b _ hb _=>World.putObj_heap_other (by omega)),belowK_b (Nat.le_refl _) W _ _ _ (by omega) h.L rfl rfl |> fun hb=>h.B.trans hb⟩
theorem WA.drew {w:World}{k:Int}{rec:Loop}{code:Nat}{lv:Value}{ws:List Nat}{bv:Value}{W:World}(h:WA w k rec code lv ws bv W):WA w k rec code lv ws bv W.drew:=
 h.below (Below.refl W.heap.size W).drew
theorem zbb (W:World)(a:Addr)(v:Value):W.grownBy (W.setCell a v) (some a.block):=
 ⟨rfl,rfl,rfl,by simp,fun k _ hr=>Below.heap_setCell W _ _ k (fun e=>hr (by rw[e]))⟩
theorem WA.store {w:World}{k:Int}{rec:Loop}{code:Nat}{lv:Value}{ws:List Nat}{bv:Value}{W W':World}(h:WA w k rec code lv ws bv W){r:Nat}(hr:w.heap.size≤r)(hr2:r<w.heap.size+1+1+1+1+1+1)(hg:W.grownBy W' (some r))
  {code':Nat} {lv':Value} {bv':Value} (h0:Blk W' (w.heap.size) [.int .i64 k] 3) (h1:Blk W' (w.heap.size+1) [.slice none 0 0] 62) (h2:Blk W' (w.heap.size+1+1) [.int .u8 code'] 34) (h3:Blk W' (w.heap.size+1+1+1) [lv'] 62) (h4:Blk W' (w.heap.size+1+1+1+1) [.int .i64 k] 3) (h5:Blk W' (w.heap.size+1+1+1+1+1) [bv'] 47)
  {ws':List Nat} (ho:zan W' (w.heap.size+1+1+1+1+1+1+1+1) lv' ws'):WA w k rec code' lv' ws' bv' W':=
 ⟨h0,h1,h2,h3,h4,h5,(hg.block _ (ze7 h.D) (fun e=>by cases e;omega)).trans h.D,(hg.block _ (ze7 h.L) (fun e=>by cases e;omega)).trans h.L,ho,h.B.grown hg h.B.size (fun q e=>by cases e;exact hr)⟩
theorem WA.setB {w:World}{k:Int}{rec:Loop}{code:Nat}{lv:Value}{ws:List Nat}{bv:Value}{W:World}(h:WA w k rec code lv ws bv W)(c:Value):WA w k rec code lv ws c (W.setCell ⟨w.heap.size+1+1+1+1+1,0,none⟩ (c)):=
 h.store (r:=w.heap.size+1+1+1+1+1) (by omega) (by omega) (zbb W _ _) (h.k0.set_other _ _ (by first|(simp;done)|(simp;omega))) (h.r0.set_other _ _ (by first|(simp;done)|(simp;omega))) (h.r1.set_other _ _ (by first|(simp;done)|(simp;omega))) (h.lb.set_other _ _ (by first|(simp;done)|(simp;omega))) (h.kb.set_other _ _ (by first|(simp;done)|(simp;omega))) (by simpa using h.bb.set 0 (c))
  (zaL h.own fun b _ hb _=>Below.heap_setCell W _ _ b (by simp;omega))
theorem WA.setR0 {w:World}{k:Int}{rec:Loop}{code:Nat}{lv:Value}{ws:List Nat}{bv:Value}{W:World}(h:WA w k rec code lv ws bv W)  : WA w k rec code lv ws bv (W.setCell ⟨w.heap.size+1,0,none⟩ (.slice none 0 0)):=
 h.store (r:=w.heap.size+1) (by omega) (by omega) (zbb W _ _) (h.k0.set_other _ _ (by first|(simp;done)|(simp;omega))) (by simpa using h.r0.set 0 (.slice none 0 0)) (h.r1.set_other _ _ (by first|(simp;done)|(simp;omega))) (h.lb.set_other _ _ (by first|(simp;done)|(simp;omega))) (h.kb.set_other _ _ (by first|(simp;done)|(simp;omega))) (h.bb.set_other _ _ (by first|(simp;done)|(simp;omega)))
  (zaL h.own fun b _ hb _=>Below.heap_setCell W _ _ b (by simp;omega))
theorem WA.setR1 {w:World}{k:Int}{rec:Loop}{code:Nat}{lv:Value}{ws:List Nat}{bv:Value}{W:World}(h:WA w k rec code lv ws bv W)(c:Nat):WA w k rec c lv ws bv (W.setCell ⟨w.heap.size+1+1,0,none⟩ (.int .u8 c)):=
 h.store (r:=w.heap.size+1+1) (by omega) (by omega) (zbb W _ _) (h.k0.set_other _ _ (by first|(simp;done)|(simp;omega))) (h.r0.set_other _ _ (by first|(simp;done)|(simp;omega))) (by simpa using h.r1.set 0 (.int .u8 c)) (h.lb.set_other _ _ (by first|(simp;done)|(simp;omega))) (h.kb.set_other _ _ (by first|(simp;done)|(simp;omega))) (h.bb.set_other _ _ (by first|(simp;done)|(simp;omega)))
  (zaL h.own fun b _ hb _=>Below.heap_setCell W _ _ b (by simp;omega))
theorem WA.push {w:World}{k:Int}{rec:Loop}{code:Nat}{lv:Value}{ws:List Nat}{bv:Value}{W w':World}(h:WA w k rec code lv ws bv W)(hg:W.grownBy w' lv.ownBlock){lv':Value}{ws':List Nat}(ho:zan w' (w.heap.size+1+1+1+1+1+1+1+1) lv' ws') :
  WA w k rec code lv' ws' bv (w'.setCell ⟨w.heap.size+1+1+1,0,none⟩ lv')∧Blk w' (w.heap.size+1+1+1) [lv] 62:=by
 have hk:∀ b o,W.heap[b]?=some o→b<w.heap.size+1+1+1+1+1+1+1+1→w'.heap[b]?=some o:=fun b o hb hlt=>by
  refine (hg.block b (ze7 hb) fun e=>?_).trans hb
  have:=(World.ownsRow.lt h.own b e.symm).1
  omega
 have b0:Blk w' _ _ _:=hk _ _ h.k0 (by omega)
 have b1:Blk w' _ _ _:=hk _ _ h.r0 (by omega)
 have b2:Blk w' _ _ _:=hk _ _ h.r1 (by omega)
 have b3:Blk w' _ _ _:=hk _ _ h.lb (by omega)
 have b4:Blk w' _ _ _:=hk _ _ h.kb (by omega)
 have b5:Blk w' _ _ _:=hk _ _ h.bb (by omega)
 have hB:Below w.heap.size w w':=h.B.grown hg h.B.size (fun q e=>by have:=(World.ownsRow.lt h.own q e).1;omega)
 refine⟨⟨b0.set_other _ _ (by first|(simp;done)|(simp;omega)),b1.set_other _ _ (by first|(simp;done)|(simp;omega)),b2.set_other _ _ (by first|(simp;done)|(simp;omega)),by simpa using b3.set 0 lv',b4.set_other _ _ (by first|(simp;done)|(simp;omega)),b5.set_other _ _ (by first|(simp;done)|(simp;omega)),
  (Below.heap_setCell w' _ _ _ (by first|(simp;done)|(simp;omega))).trans (hk _ _ h.D (by omega)),(Below.heap_setCell w' _ _ _ (by first|(simp;done)|(simp;omega))).trans (hk _ _ h.L (by omega)),zaL ho fun b _ hb _=>Below.heap_setCell w' _ _ b (by simp;omega),hB.setCell (by simp;omega) _⟩,b3⟩
def wRec (fn:FuncId)(H:Nat)(k:Int)(a:Option Addr)(ln cap:Nat)(ac bd:Code)(st:LoopState)(pend:Option Code):Loop:=
 { state:=st,pending:=pend,fn,tmps:=#[.int .i64 k,.slice a ln cap,.pointer (some ⟨H,0,none⟩),undef,.pointer (some ⟨H+1,0,none⟩),.pointer (some ⟨H+1+1,0,none⟩),.pointer (some ⟨H+1+1+1,0,none⟩),undef,undef,undef,.int .i64 k,.slice a ln cap,.func (.func 239) #[] #[.pointer (some ⟨H+1+1+1+1,0,none⟩),.pointer (some ⟨H+1+1+1+1+1,0,none⟩)],undef,undef,undef,undef,undef,undef,undef,undef,undef,undef,undef,undef,undef,undef,undef,undef,undef,undef],params:=#[13],assign:=ac,body:=bd,defers:=H+1+1+1+1+1+1 }
def zqU (w:World)(x:List Nat × Nat)(e:Ending)(w':World):Prop:=∃ v',e= .returned (.tuple #[v',.int .u8 (x.2:Nat)])∧zan w' w.heap.size v' x.1∧Below w.heap.size w w'
theorem zl8 {w:World}{v:Value}{l:List UInt8}(h:zal w v l)(hl40:l.length≤1099511627776)(k:Int)(hk:zac k=true) :
  Calls Tryz.prog 182 #[.int .i64 k,v] w (zqU w (zce k l)):=by
 refine (callsIn_wide (n:=4)).1 ?_
 have hv:=hid h
 have HK:=hid hk
 have H40:=hid hl40
 obtain⟨hlen,a,cap,rfl,-,-,-,hcell⟩:=h.open
 clear hcell
 obtain⟨ln,HN⟩:∃ ln,Hid (ln=l.length):=⟨_,rfl⟩
 rw[←HN.out] at hlen h ⊢
 refine callsIn_of_wp_marks Tryz.func182 rfl trivial ?_ rfl
 simp only[Tryz.ntmps182,List.size_toArray,List.length_cons,List.length_nil,Nat.reduceAdd,Nat.reduceSub,Array.replicate_succ,Array.replicate_zero,List.push_toArray,List.append_toArray,List.nil_append,List.cons_append]
 have hn1:1≤4:=by omega
 gi_wp2_with (refine⟨trivial,?_⟩;gi_at_call 223;refine (zjV 3 _ _ _ _).mono ?_;rintro e w' ⟨rfl,rfl⟩)
 refine zom ?_
 intro ac bd HAC HBD
 refine wpIn_rangeFunc ?_
 intro fn hfn
 obtain⟨W0,HW0⟩:∃ W0,Hid (W0=((((((w.alloc (.cells #[.int .i64 k] 3)).alloc (.cells #[.slice none 0 0] 62)).alloc (.cells #[.int .u8 0] 34)).alloc (.cells #[.slice none 0 0] 62)).alloc (.cells #[.int .i64 k] 3)).alloc (.cells #[.slice a ln cap] 47))):=⟨_,rfl⟩
 rw[←HW0.out]
 obtain⟨rr,HRR⟩:∃ rr,Hid (rr=wRec fn w.heap.size k a ln cap ac bd .ready none):=⟨_,rfl⟩
 obtain⟨rd,HRD⟩:∃ rd,Hid (rd=wRec fn w.heap.size k a ln cap ac bd .done (some .ret)):=⟨_,rfl⟩
 obtain⟨W1,HW1⟩:∃ W1,Hid (W1=(W0.alloc (.deferred (some []))).alloc (.loop rr)):=⟨_,rfl⟩
 have hs0:W0.heap.size=w.heap.size+1+1+1+1+1+1:=by rw[HW0.out];simp
 have hM:WA w k rr 0 (.slice none 0 0) [] (.slice a ln cap) W1:=by
  have e0:=Blk.new w [.int .i64 k] 3
  have e1:=Blk.new (w.alloc (.cells #[.int .i64 k] 3)) [.slice none 0 0] 62
  have e2:=Blk.new ((w.alloc (.cells #[.int .i64 k] 3)).alloc (.cells #[.slice none 0 0] 62)) [.int .u8 0] 34
  have e3:=Blk.new (((w.alloc (.cells #[.int .i64 k] 3)).alloc (.cells #[.slice none 0 0] 62)).alloc (.cells #[.int .u8 0] 34)) [.slice none 0 0] 62
  have e4:=Blk.new ((((w.alloc (.cells #[.int .i64 k] 3)).alloc (.cells #[.slice none 0 0] 62)).alloc (.cells #[.int .u8 0] 34)).alloc (.cells #[.slice none 0 0] 62)) [.int .i64 k] 3
  have e5:=Blk.new (((((w.alloc (.cells #[.int .i64 k] 3)).alloc (.cells #[.slice none 0 0] 62)).alloc (.cells #[.int .u8 0] 34)).alloc (.cells #[.slice none 0 0] 62)).alloc (.cells #[.int .i64 k] 3)) [.slice a ln cap] 47
  have e6:=heap_alloc_new W0 (.deferred (some []))
  have e7:=heap_alloc_new (W0.alloc (.deferred (some []))) (.loop rr)
  simp only[World.size_alloc] at e1 e2 e3 e4 e5 e7
  rw[hs0] at e6 e7
  rw[HW1.out]
  refine⟨?_,?_,?_,?_,?_,?_,?_,e7,World.ownsRow_nil _ _ _ _,?_⟩
  ·
   exact Blk.alloc (Blk.alloc (by rw[HW0.out];exact (((((e0.alloc _).alloc _).alloc _).alloc _).alloc _)) _) _
  ·
   exact Blk.alloc (Blk.alloc (by rw[HW0.out];exact ((((e1.alloc _).alloc _).alloc _).alloc _)) _) _
  ·
   exact Blk.alloc (Blk.alloc (by rw[HW0.out];exact (((e2.alloc _).alloc _).alloc _)) _) _
  ·
   exact Blk.alloc (Blk.alloc (by rw[HW0.out];exact ((e3.alloc _).alloc _)) _) _
  ·
   exact Blk.alloc (Blk.alloc (by rw[HW0.out];exact (e4.alloc _)) _) _
  ·
   exact Blk.alloc (Blk.alloc (by rw[HW0.out];exact e5) _) _
  ·
   exact (Below.heap_alloc _ _ _ (by simp;omega)).trans e6
  ·
   have:Below w.heap.size w W0:=by
    rw[HW0.out]
    (with_reducible repeat first|exact Below.refl _ _|refine pzA ?_ _|refine pzB ?_ _|refine zab ?_ _|refine Below.drew ?_)
   exact (this.alloc (by omega) _).alloc (by simp;omega) _
 have hround:∀ (ws:List Nat) (e:Nat) (lv bv:Value) (sa:Option Addr) (sn sc:Nat) (x:List UInt8) (W:World),ws.length≤1099511627776→zal w (.slice sa sn sc) x→WA w k rr 0 lv ws bv W →
   YieldAt Fence.wide (4 - 1 - 1) Tryz.prog (w.heap.size+1+1+1+1+1+1+1) #[.agg #[.slice sa sn sc,.int .u8 e]] W fun e' W' =>
    (e=0∧e'= .returned (.bool true)∧∃ lv',WA w k rr 0 lv' (ws++[(zdd k x).1]) bv W') ∨
    (e≠0∧e'= .returned (.bool false)∧WA w k rd e lv ws bv W'):=by
  intro ws e lv bv sa sn sc x W hws hX hC
  refine⟨fn,_,ac,bd,by simpa [HRR.out,wRec] using run_yield (P:=Tryz.prog) (args:=#[.agg #[.slice sa sn sc,.int .u8 e]]) hC.L (by rw[HRR.out];rfl),roundIn_of_wpIn hfn ?_⟩
  have hlt:=ze7 hC.L
  rw[HAC.out]
  have HX:=hid hX
  have HWS:=hid hws
  clear hX hws
  gi_wp2
  have hC1:=hC.below ((Below.refl W.heap.size W).alloc (Nat.le_refl _) (.cells #[.slice sa sn sc,.int .u8 e] 326))
  have hV1:=Blk.new W [.slice sa sn sc,.int .u8 e] 326
  refine⟨_,run_beginRound hC1.L (by rw[HRR.out];rfl),?_⟩
  have hC2:=hC1.put { rr with state:=.busy }
  have hV2:=hV1.put (.loop { rr with state:=.busy }) (r:=w.heap.size+1+1+1+1+1+1+1) (by omega)
  obtain⟨W2,HW2⟩:∃ W2,Hid (W2=(W.alloc (.cells #[.slice sa sn sc,.int .u8 e] 326)).putObj (w.heap.size+1+1+1+1+1+1+1) (.loop { rr with state:=.busy })):=⟨_,rfl⟩
  rw[←HW2.out] at hC2 hV2 ⊢
  rw[HBD.out]
  have v1:=hV2.cell 1 _ rfl
  have v0:=hV2.cell 0 _ rfl
  have kk0:=hC2.k0.cell 0 _ rfl
  have n0:=hC2.lb.cell 0 _ rfl
  have nz:=hC2.lb.free 0
  have z0:=hC2.r0.free 0
  have z1:=hC2.r1.free 0
  have q0:=hC2.r0.cell 0 _ rfl
  have q1:=hC2.r1.cell 0 _ rfl
  by_cases he:e=0
  ·
   subst he
   obtain⟨a3,c3,e3⟩:=hC2.own.form
   obtain⟨wn,HWN⟩:∃ wn,Hid (wn=ws.length):=⟨_,rfl⟩
   rw[←HWN.out] at e3
   subst e3
   gi_wp2
   refine⟨trivial,?_⟩
   have hbx:zal W2 (.slice sa sn sc) x:=HX.out.keep (zaa hC2.B)
   have hrd0:=zdx HK.out hbx
   refine (CallsIn.inRound (w.heap.size+1+1+1+1+1+1+1) (callsIn_wide.2 hrd0)).mono ?_
   rintro e w3 ⟨rfl,hb3⟩
   have hC3:=hC2.below hb3
   have hV3:=hV2.below hb3
   obtain⟨y,HYY⟩:∃ y,Hid (y=(zdd k x).1):=⟨_,rfl⟩
   rw[←HYY.out]
   obtain⟨yc,HYC⟩:∃ yc,Hid (yc=(zdd k x).2):=⟨_,rfl⟩
   rw[←HYC.out]
   obtain⟨v5,w5,hr5,hO5,hg5⟩:=hC3.own.one y HWS.out (by have:=ze7 hC3.L;omega)
   obtain⟨hC5,hb5⟩:=hC3.push hg5 hO5
   obtain⟨a5,c5,e5⟩:=hO5.form
   obtain⟨k5,HK5⟩:∃ k5,Hid (k5=(ws++[y]).length):=⟨_,rfl⟩
   rw[←HK5.out] at e5
   subst e5
   have HR5:=hid hr5
   have HC5:=hid hC5
   have HC3:=hid hC3
   have m0:=hb5.cell 0 _ rfl
   have mz:=hb5.free 0
   have ml:=hb5.lt
   have n0:=hC3.lb.cell 0 _ rfl
   have nl:=hC3.lb.lt
   clear hr5 hO5 hg5 hC5 hb5 hrd0 hb3 hC3 hV3 hbx v1 v0 kk0 nz z0 z1 q0 q1
   gi_wp2_with (gi_at_builtin;refine zdy rfl (.tmp 26) (.tmp 28) 62 62 rfl _ _ rfl rfl HR5.out ?_)
   have hC6:=HC5.out.put rr
   have hrd:({ ({ rr with state:=.busy }:Loop) with state:=.ready,pending:=none }:Loop)=rr:=by rw[HRR.out];rfl
   exact⟨_,_,run_endRound (P:=Tryz.prog) none HC5.out.L,rfl,_,by rw[←HYY.out];simpa [hrd] using hC6⟩
  ·
   have e1:((e:Int) != 0)=true:=by simp;omega
   have e2:((e:Int) == 0)=false:=by simp;omega
   have HE:=hid he
   clear he
   gi_wp2
   gi_region
   all_goals gi_wp2
   all_goals
    have hC3:WA w k { rr with state:=.busy } e lv ws bv ((W2.setCell ⟨w.heap.size+1,0,none⟩ (.slice none 0 0)).setCell ⟨w.heap.size+1+1,0,none⟩ (.int .u8 e)).drew:=((hC2.setR0).setR1 e).drew
    have hC4:=hC3.put rd
    have hrd:({ ({ rr with state:=.busy }:Loop) with state:=.done,pending:=some .ret }:Loop)=rd:=by rw[HRR.out,HRD.out];rfl
    exact⟨_,_,run_endRound (P:=Tryz.prog) (some .ret) hC3.L,.inr ⟨HE.out,rfl,by simpa [hrd] using hC4⟩⟩
 refine⟨W0.heap.size+1,[{ target:=.collected W0.heap.size,args:=#[] }],W1,{ target:=.fn (.func 239) #[.pointer (some ⟨w.heap.size+1+1+1+1,0,none⟩),.pointer (some ⟨w.heap.size+1+1+1+1+1,0,none⟩)],args:=#[.func (.yield (W0.heap.size+1)) #[] #[]] },W1,239,
  #[.func (.yield (W0.heap.size+1)) #[] #[],.pointer (some ⟨w.heap.size+1+1+1+1,0,none⟩),.pointer (some ⟨w.heap.size+1+1+1+1+1,0,none⟩)],W1,?_,?_,?_,?_,fun _=>hn1,?_⟩
 ·
  rw[HW1.out,HRR.out,wRec,←hs0];exact run_enterLoop_outer _ _ _ _ _
 ·
  simp[resolve,go_sem]
 ·
  intro f' hf';trivial
 ·
  simp[invoke,go_sem]
 ·
  refine CallsIn.mono (R:=fun e W'=>(∃ v,e= .returned v)∧(((zaz (zas k) l).2=0∧∃ bv lv,WA w k rr 0 lv (ziu k l) bv W') ∨
    ∃ pre x e,zkT (zas k) l pre x e∧(e≠0∧∃ bv lv ws,WA w k rd e lv ws bv W'))) ?_ ?_
  ·
   rw[hs0]
   refine zim (4 - 1) (by omega) _ _ _ k hk h (fun pre bv W=>∃ lv,WA w k rr 0 lv (pre.map fun x=>(zdd k x).1) bv W) (fun pre x e W=>e≠0∧∃ bv lv ws,WA w k rd e lv ws bv W)
    (fun pre bv W hC=>⟨hC.choose_spec.kb.cell 0 _ rfl,hC.choose_spec.bb.cell 0 _ rfl,hC.choose_spec.bb.free 0,hC.choose_spec.B⟩) (fun pre bv W W' hC hb=>⟨_,hC.choose_spec.below hb⟩) (fun pre bv bv' W hC=>⟨_,hC.choose_spec.setB bv'⟩) ?_ W1 ⟨_,hM⟩
   intro pre bv W sa sn sc x e hpl hC hx
   obtain⟨lv,hC⟩:=hC
   obtain⟨fn',tm,as',bo,hy,hR⟩:=hround (pre.map fun x=>(zdd k x).1) e lv bv sa sn sc x W (by rw[List.length_map];have:=H40.out;omega) hx hC
   refine⟨fn',tm,as',bo,hy,hR.mono ?_⟩
   rintro e' W' (⟨h1,h2,lv',h3⟩|⟨h1,h2,h3⟩)
   ·
    exact .inl ⟨h1,h2,lv',by simpa using h3⟩
   ·
    exact .inr (.inr ⟨h1,⟨_,h2⟩,h1,_,_,_,h3⟩)
  ·
   rintro e W' ⟨⟨v,rfl⟩,⟨h0,bv,lv,hC⟩|⟨pre,x,e,hS,h0,bv,lv,ws,hC⟩⟩
   ·
    have hE:=run_endLoop (P:=Tryz.prog) hC.L (by simp[HRR.out,wRec])
    have hC2:=hC.put { (rr:Loop) with state:=.exhausted }
    obtain⟨W3,HW3⟩:∃ W3,Hid (W3=W'.putObj (w.heap.size+1+1+1+1+1+1+1) (.loop { (rr:Loop) with state:=.exhausted })):=⟨_,rfl⟩
    rw[←HW3.out] at hC2 hE
    refine⟨none,W3,by rw[hs0,hE,HRR.out];rfl,?_⟩
    simp only
    rw[hs0]
    obtain⟨a3,c3,e3⟩:=hC2.own.form
    obtain⟨kn,HKN⟩:∃ kn,Hid (kn=(ziu k l).length):=⟨_,rfl⟩
    rw[←HKN.out] at e3
    subst e3
    have c0:=hC2.r0.cell 0 _ rfl
    have c1:=hC2.r1.cell 0 _ rfl
    have f0:=hC2.r0.free 0
    have f1:=hC2.r1.free 0
    have cn:=hC2.lb.cell 0 _ rfl
    have HC2:=hid hC2
    clear hC hE hC2
    gi_wp2
    obtain⟨e1,e2,e3,e4⟩:=zfX HC2.out.r0 HC2.out.r1 HC2.out.D (by omega) (by omega) (by omega) (by omega) HC2.out.B (.slice a3 kn c3) (.int .u8 0)
    refine⟨by simp,.inl ⟨_,_,rfl,run_takeDeferred (P:=Tryz.prog) e1,?_⟩⟩
    refine⟨_,by simp[results,Tryz.f182,go_sem,e2,e3];rfl,?_⟩
    rw[zce,if_pos h0]
    refine⟨.slice a3 kn c3,rfl,?_,e4⟩
    refine zan.mono (b:=w.heap.size+1+1+1+1+1+1+1+1) (zaL HC2.out.own fun b _ hb _=>?_) (by omega)
    rw[World.putObj_heap_other (by omega)]
    exact (Below.heap_setCell _ _ _ _ (by first|(simp;done)|(simp;omega))).trans (Below.heap_setCell _ _ _ _ (by first|(simp;done)|(simp;omega)))
   ·
    have hE:=run_endLoop (P:=Tryz.prog) hC.L (by simp[HRD.out,wRec])
    have hC2:=hC.put { (rd:Loop) with state:=.exhausted }
    obtain⟨W3,HW3⟩:∃ W3,Hid (W3=W'.putObj (w.heap.size+1+1+1+1+1+1+1) (.loop { (rd:Loop) with state:=.exhausted })):=⟨_,rfl⟩
    rw[←HW3.out] at hC2 hE
    refine⟨some .ret,W3,by rw[hs0,hE,HRD.out];rfl,?_⟩
    simp only
    rw[hs0]
    gi_wp2
    obtain⟨e2,e3,e4⟩:=zeW hC2.r0 hC2.r1 hC2.D (by omega) hC2.B
    refine⟨by simp,.inl ⟨_,_,rfl,run_takeDeferred (P:=Tryz.prog) hC2.D,?_⟩⟩
    refine⟨_,by simp[results,Tryz.f182,go_sem,e2,e3];rfl,?_⟩
    have he:e=(zaz (zas k) l).2:=by
     rcases hS with ⟨_,_,h⟩|⟨h,_⟩
     ·
      exact h
     ·
      exact absurd h h0
    rw[zce,if_neg (by rw[←he];exact h0),←he]
    exact⟨.slice none 0 0,rfl,World.ownsRow_nil _ _ _ _,e4⟩
end
section
open Go.RowKit
def zah (l:List UInt8)(x:VW):List UInt8:=zbx l x.r.at' x.r.to
def zam (f:Fld)(l:List UInt8)(x:VW):List Nat:=if x.run=true then (zce f.kind (zah l x)).1 else if zac f.kind=true then [(zdd f.kind (zah l x)).1] else []
def zaI (f:Fld)(l:List UInt8)(x:VW):List (List UInt8):=if x.run=true∨zac f.kind=true then [] else [zah l x]
def zbn {α:Type}(l:List α):List α:=l.drop (l.length - 1)
theorem zf3 {α:Type}(l:List α)(x:α):zbn (l++[x])=[x]:=by
 unfold zbn
 simp
def counts {α:Type}(f:Fld)(xs:List α):List α:=if f.rep=true then xs else zbn xs
theorem ziv {α:Type}(f:Fld)(xs:List α)(x:α):counts f (xs++[x])=(if f.rep=true then xs else [])++[x]:=by
 unfold counts
 split
 ·
  rfl
 ·
  rw[zf3];rfl
def zay {α:Type}(sub:Int→List UInt8→List α)(f:Fld)(l:List UInt8)(xs:List VW):Val α:=
 ⟨f.number,(counts f xs).flatMap (zam f l),if f.kind=17 then [] else (counts f xs).flatMap (zaI f l),
  if f.kind=17 then (if f.rep=true then xs.flatMap (fun x=>sub f.of (zah l x)) else if xs=[] then [] else sub f.of (xs.flatMap (zah l))) else []⟩
def many {α:Type}(v:Val α):Nat:=v.words.length+v.texts.length+v.subs.length
def zak (all:List VW)(i:Int):List VW:=all.filter fun x=>decide (x.k=i)
def zdO {α:Type}(sub:Int→List UInt8→List α)(fs:List Fld)(l:List UInt8):zsa α:=
 ⟨((zaq fs).map fun i=>zay sub (fs.getD i.toNat .zero) l (zak (zbA fs l).1 i)).filter (fun v=>decide (0<many v)),
  ((zbA fs l).1.filter fun x=>decide (x.k<0)).map fun x=>zbx l x.r.start x.r.to⟩
def tof (s:List Mes):(d:Nat)→Nat→List UInt8→M (d+1)
 | 0,m,l=>zdO (α:=M 0) (fun _ _=>[]) (s.getD m .zero).fields l
 | d+1,m,l=>zdO (α:=M (d+1)) (fun o b=>[tof s d o.toNat b]) (s.getD m .zero).fields l
def zdz (s:List Mes):(d:Nat)→Int→List UInt8→List (M d)
 | 0=>fun _ _=>[]
 | d+1=>fun o b=>[tof s d o.toNat b]
theorem zf4 (s:List Mes)(d m:Nat)(l:List UInt8):tof s d m l=zdO (zdz s d) (s.getD m .zero).fields l:=by cases d <;> rfl
structure zea (s:List Mes)(d m:Nat)(l:List UInt8)(x:VW):Prop where
 look:∃ j,zao (s.getD m .zero).fields l j=(x.r,x.k,x.run,0)
 right:(zgW (zlZ s d) (decide (d=0)) (s.getD m .zero).fields l (x.r,x.k,x.run,0)).2=0
theorem zot (s:List Mes)(d m:Nat)(l:List UInt8):∀ (fuel i:Nat),l.length≤fuel+i→(zgX s d m l i).2=0 →
  (zaB (s.getD m .zero).fields l fuel i).2.2=0∧∀ x∈(zaB (s.getD m .zero).fields l fuel i).1,zea s d m l x
 | 0,i,_,_=>⟨rfl,by simp[zaB]⟩
 | n+1,i,hn,h=>by
  rw[zaB]
  by_cases hi:l.length≤i
  ·
   rw[if_pos hi];exact⟨rfl,by simp⟩
  rw[if_neg hi]
  rw[zdj,if_neg hi] at h
  by_cases hc:(zao (s.getD m .zero).fields l i).2.2.2=0
  ·
   rw[if_neg (by omega)] at h ⊢
   by_cases hv:(zgW (zlZ s d) (decide (d=0)) (s.getD m .zero).fields l (zao (s.getD m .zero).fields l i)).2=0
   ·
    rw[if_neg (by omega)] at h
    have hto:=zdQ _ _ _ hc
    obtain⟨g1,g2⟩:=zot s d m l n _ (by omega) h
    have he:zao (s.getD m .zero).fields l i=((zao (s.getD m .zero).fields l i).1,(zao (s.getD m .zero).fields l i).2.1,(zao (s.getD m .zero).fields l i).2.2.1,0):=by rw[←hc]
    rw[he] at hv
    simp only
    rw[if_neg (by omega)]
    refine⟨rfl,fun x hx=>?_⟩
    rcases List.mem_cons.1 hx with rfl|hx
    ·
     exact⟨⟨i,he⟩,hv⟩
    ·
     exact g2 x hx
   ·
    rw[if_pos hv] at h;exact absurd h hv
  ·
   rw[if_pos hc] at h;exact absurd h hc
theorem zk8 {s:List Mes}{d m:Nat}{l:List UInt8}(h:(zdb s d m l).2=0):(zbA (s.getD m .zero).fields l).2.2=0∧∀ x∈(zbA (s.getD m .zero).fields l).1,zea s d m l x:=
 zot s d m l _ 0 (by omega) (by rw[←ze0];exact h)
theorem zea.facts {s:List Mes}{d m:Nat}{l:List UInt8}{x:VW}(h:zea s d m l x) :
  x.r.start≤x.r.at'∧x.r.at'≤x.r.to∧x.r.to≤l.length∧(x.k= -1∧x.run=false∨∃ k:Nat,x.k=k∧k<(s.getD m .zero).fields.length ∧
   (x.run=true→((s.getD m .zero).fields.getD k .zero).rep=true∧zac ((s.getD m .zero).fields.getD k .zero).kind=true)∧zaM ((s.getD m .zero).fields.getD k .zero).kind=true):=by
 obtain⟨j,hj⟩:=h.look
 rcases zbC (s.getD m .zero).fields l j with ⟨c,hc,e,-⟩|⟨r,h1,h2,h3,h4,h5,e|⟨k,run,hk,e,-,h6,h7⟩⟩
 ·
  rw[e] at hj
  exact absurd (congrArg (fun t=>t.2.2.2) hj) (by simpa using hc)
 ·
  rw[e] at hj
  injection hj with e1 e2
  injection e2 with e2 e3
  injection e3 with e3 e4
  subst e1
  exact⟨by omega,h3,h4,.inl ⟨e2.symm,e3.symm⟩⟩
 ·
  rw[e] at hj
  injection hj with e1 e2
  injection e2 with e2 e3
  injection e3 with e3 e4
  subst e1
  subst e3
  refine⟨by omega,h3,h4,.inr ⟨k,e2.symm,hk,fun hr=>⟨(h6 hr).1,(h6 hr).2.1⟩,?_⟩⟩
  cases hr:x.run with
  | true=>exact zpl (h6 hr).2.1
  | false=>exact (h7 hr).1
theorem zea.sub {s:List Mes}{d m:Nat}{l:List UInt8}{x:VW}(h:zea s d m l x){k:Nat}(hk:x.k=k)(h17:((s.getD m .zero).fields.getD k .zero).kind=17) :
  ∃ d',d=d'+1∧(zdb s d' ((s.getD m .zero).fields.getD k .zero).of.toNat (zah l x)).2=0:=by
 have h1:=h.right
 obtain⟨-,-,-,h2⟩:=h.facts
 have hr:x.run≠true:=by
  rintro hr
  rcases h2 with ⟨h2,-⟩|⟨k',h2,-,h3,-⟩
  ·
   omega
  ·
   have:k'=k:=by omega
   subst this
   have:=(h3 hr).2
   rw[h17] at this
   simp[zac] at this
 unfold zgW at h1
 simp only at h1
 rw[if_neg (by omega),if_neg hr,hk,Int.toNat_natCast,if_neg (by rw[h17];decide),if_pos h17] at h1
 cases d with
 | zero=>simp at h1
 | succ d' =>
  refine⟨d',rfl,?_⟩
  rw[if_neg (by simp)] at h1
  exact h1
theorem zea.text {s:List Mes}{d m:Nat}{l:List UInt8}{x:VW}(h:zea s d m l x){k:Nat}(hk:x.k=k)(h15:((s.getD m .zero).fields.getD k .zero).kind=15) :
  zbw (zah l x)=(zah l x).length:=by
 have h1:=h.right
 obtain⟨-,-,-,h2⟩:=h.facts
 have hr:x.run≠true:=by
  rintro hr
  rcases h2 with ⟨h2,-⟩|⟨k',h2,-,h3,-⟩
  ·
   omega
  ·
   have:k'=k:=by omega
   subst this
   have:=(h3 hr).2
   rw[h15] at this
   simp[zac] at this
 unfold zgW at h1
 simp only at h1
 rw[if_neg (by omega),if_neg hr,hk,Int.toNat_natCast,if_pos h15] at h1
 by_cases h3:zbw (zah l x)=(zah l x).length
 ·
  exact h3
 ·
  rw[if_neg (show ¬ (zbw (zbx l x.r.at' x.r.to)=(zbx l x.r.at' x.r.to).length) from h3)] at h1
  simp at h1
end
end Go.Proofs.YtpckoeicbjfnhaaGreatDoor
