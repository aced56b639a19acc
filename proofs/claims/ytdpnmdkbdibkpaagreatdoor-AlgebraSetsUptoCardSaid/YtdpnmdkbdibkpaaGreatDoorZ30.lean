/- Parts of a proof: texts of the author, merged. No condition of their own. -/
import Derived.Test.YtdpnmdkbdibkpaaGreatDoorShelf
import Derived.Test.YtdpnmdkbdibkpaaGreatDoorZ03
import Derived.Test.YtdpnmdkbdibkpaaGreatDoorZ05
import Derived.Test.YtdpnmdkbdibkpaaGreatDoorZ06
import Derived.Test.YtdpnmdkbdibkpaaGreatDoorZ07
import Derived.Test.YtdpnmdkbdibkpaaGreatDoorZ11
import Derived.Test.YtdpnmdkbdibkpaaGreatDoorZ13
import Derived.Test.YtdpnmdkbdibkpaaGreatDoorZ14
import Derived.Test.YtdpnmdkbdibkpaaGreatDoorZ29
import Derived.RangeFuncFrom
import Derived.OwnWalkIn
import Derived.TacticsInMore
import Derived.RegionIn
import Derived.LoopNIn
import Derived.LoopIn
import Derived.Shelf.Abstract
import Derived.RangeFuncNested
import Derived.RangeFuncCalls
namespace Go.Proofs.YtdpnmdkbdibkpaaGreatDoor
set_option maxRecDepth 100000
set_option maxHeartbeats 16000000
section
open Go.RowKit Go.Shelf
attribute [local go_sem] Oper.semAt_some
theorem zpl (l:List UInt8)(i:Nat):(⟨l.toArray⟩:ByteArray).extract 0 i=⟨(l.take i).toArray⟩:=by
 apply ByteArray.ext
 simp
theorem zpm (l:List UInt8)(i:Nat):(⟨l.toArray⟩:ByteArray).extract i (⟨l.toArray⟩:ByteArray).size=⟨(l.drop i).toArray⟩:=by
 apply ByteArray.ext
 apply Array.ext'
 simp[ByteArray.size]
 exact List.take_of_length_le (by simp)
theorem zdh (l:List UInt8):(⟨l.toArray⟩:ByteArray).size=l.length:=by simp[ByteArray.size]
theorem zk5 (l:List UInt8)(i:Nat)(hi:i≤l.length)(W:World) :
  (Instr.slice 9 (zbA l) none (some (.int .i64 (i:Int))) none).run Tryz.prog W= .ok (zbA (l.take i)) W:=by
 unfold zbA
 rw[run_slice_string_h (ht:=Tryz.underlying9) (h0:=by omega) (h2:=by rw[zdh];omega),Int.toNat_natCast,zpl]
theorem zk6 (l:List UInt8)(i:Nat)(hi:i≤l.length)(W:World) :
  (Instr.slice 9 (zbA l) (some (.int .i64 (i:Int))) none none).run Tryz.prog W= .ok (zbA (l.drop i)) W:=by
 unfold zbA
 rw[run_slice_string_l (ht:=Tryz.underlying9) (h0:=by omega) (h1:=by rw[zdh];omega),Int.toNat_natCast,zpm]
def zpH:Option Value→Nat
 | some (.string s)=>s.size
 | _=>0
theorem zqa (n:Nat)(hn:1≤n)(l bp bs bq:Nat)(p:List UInt8)(hp:p.length≤140737488355328)
  (J:List (List UInt8)→List UInt8→World→Prop) (Jx:List (List UInt8)→World→Prop)
  (h1:∀ pre rest W,J pre rest W→W.cell? ⟨bp,0,none⟩=some (.string ⟨#[46]⟩)∧W.cell? ⟨bs,0,none⟩=some (zbA rest)∧W.frozen? ⟨bs,0,none⟩=false∧W.cell? ⟨bq,0,none⟩=some (.int .i64 0))
  (h3:∀ pre rest rest' W,J pre rest W→J pre rest' (W.setCell ⟨bs,0,none⟩ (zbA rest')))
  (hY:∀ pre rest W x,pre.length<(zdg p).length→J pre rest W→x.length≤p.length→YieldAt Fence.wide (n - 1) Tryz.prog l #[zbA x] W fun e' W' =>
   (e'= .returned (.bool true)∧J (pre++[x]) rest W')∨(e'= .returned (.bool false)∧Jx (pre++[x]) W'))
  (W:World) (h0:J [] p W) :
  CallsIn Fence.wide n Tryz.prog 180 #[.func (.yield l) #[] #[],.pointer (some ⟨bp,0,none⟩),.pointer (some ⟨bs,0,none⟩),.pointer (some ⟨bq,0,none⟩)] W fun e W'=>(∃ v,e= .returned v) ∧
   ((∃ rest,J (zdg p) rest W')∨∃ pre,pre <+: zdg p∧Jx pre W'):=by
 refine callsIn_of_wp Tryz.func180 rfl trivial ?_ rfl
 simp only[Tryz.ntmps180,List.size_toArray,List.length_cons,List.length_nil,Nat.reduceAdd,Nat.reduceSub,Array.replicate_succ,Array.replicate_zero,List.push_toArray,List.append_toArray,List.nil_append,List.cons_append]
 have HP:=hid hp
 obtain⟨c0,-,-,-⟩:=h1 _ _ _ h0
 clear hp
 gi_wp2
 clear c0
 gi_loopw [] (fun wr=>∃ pre rest,J pre rest wr∧Hid (zdg p=pre++zdg rest∧rest.length≤p.length)) (fun wr=>zpH (wr.cell? ⟨bs,0,none⟩))
 case atStart=>exact⟨[],p,h0,rfl,Nat.le_refl _⟩
 case round =>
  obtain⟨pre,rest,hJ,HR⟩:=hrel
  obtain⟨cp,cs,fs,cq⟩:=h1 _ _ _ hJ
  have hrl:=HR.out.2
  have hpl:pre.length<(zdg p).length:=by
   obtain⟨h,t,e⟩:=zkd rest
   rw[HR.out.1,e,List.length_append]
   simp
  rcases (by omega:Lib.indexByte rest 46<0∨0≤Lib.indexByte rest 46) with hneg|hpos
  ·
   have hi:Lib.indexByte rest 46= -1:=by have:=Lib.indexByte_ge rest 46;omega
   have HI:=hid hi
   have HE:=hid (zhm hi)
   obtain⟨fn,tmps,assign,body,hy,hRd⟩:=hY pre rest wr rest hpl hJ hrl
   have hix:=Tryz.strings_Index_one ⟨rest.toArray⟩ 46 wr
   rw[show (⟨rest.toArray⟩:ByteArray).data.toList=rest by simp,HI.out] at hix
   have HX:=hid hix
   clear hix hi hneg
   unfold zbA at cs hy
   gi_wp2_with (refine⟨trivial,?_⟩;gi_at_call 182;refine (callsIn_wide.2 HX.out).mono ?_;rintro e w' ⟨rfl,rfl⟩)
   refine hRd.mono ?_
   rintro e' W' (⟨rfl,hJ'⟩|⟨rfl,hX⟩)
   ·
    gi_wp2
    go_end0
    exact⟨⟨_,rfl⟩,.inl ⟨rest,by rw[HR.out.1,HE.out];exact hJ'⟩⟩
   ·
    have HXX:=hid hX
    clear hX
    gi_wp2
    go_end0
    exact⟨⟨_,rfl⟩,.inr ⟨_,by rw[HR.out.1,HE.out];exact List.prefix_refl _,HXX.out⟩⟩
  ·
   obtain⟨i,hi⟩:∃ i:Nat,Lib.indexByte rest 46=i:=⟨(Lib.indexByte rest 46).toNat,by omega⟩
   have HI:=hid hi
   obtain⟨hil,he⟩:=zhn hi
   have HE:=hid he
   obtain⟨fn,tmps,assign,body,hy,hRd⟩:=hY pre rest wr (rest.take i) hpl hJ (by rw[List.length_take];omega)
   have hix:=Tryz.strings_Index_one ⟨rest.toArray⟩ 46 wr
   rw[show (⟨rest.toArray⟩:ByteArray).data.toList=rest by simp,HI.out] at hix
   have HX:=hid hix
   have hsh:=zk5 rest i (by omega)
   have hsl:=zk6 rest (i+1) (by omega)
   rw[show ((i+1:Nat):Int)=(i:Int)+1 by omega] at hsl
   have hib:i≤140737488355328:=by have:=HP.out;omega
   have HIL:=hid hil
   have HCS:=hid cs
   clear hix hi hpos he hil hrl hpl
   unfold zbA at cs hy hsh hsl
   gi_wp2_with (refine⟨trivial,?_⟩;gi_at_call 182;refine (callsIn_wide.2 HX.out).mono ?_;rintro e w' ⟨rfl,rfl⟩)
   refine hRd.mono ?_
   rintro e' W' (⟨rfl,hJ'⟩|⟨rfl,hX⟩)
   ·
    obtain⟨cp',cs',fs',cq'⟩:=h1 _ _ _ hJ'
    have hJ2:=h3 _ _ (rest.drop (i+1)) _ hJ'
    have HJ2:=hid hJ2
    have HCS':=hid cs'
    unfold zbA at cs'
    clear cp cs fs cq hy hRd hJ2
    gi_wp2
    go_roundw
    case rel =>
     refine⟨_,_,HJ2.out,?_,?_⟩
     ·
      rw[HR.out.1,HE.out];simp
     ·
      have:=HR.out.2
      rw[List.length_drop];omega
    case measure =>
     rw[World.cell?_setCell_same' _ _ _ (by rw[HCS'.out];rfl),HCS.out]
     have:=HIL.out
     simp only[zpH,zbA,zdh,List.length_drop]
     omega
   ·
    have HXX:=hid hX
    clear hX
    gi_wp2
    refine bodyPost_ret (results_none rfl _ _ _) rfl ?_
    exact⟨⟨_,rfl⟩,.inr ⟨_,by rw[HR.out.1,HE.out];exact⟨zdg (rest.drop (i+1)),by simp⟩,HXX.out⟩⟩
def zpn (B:Nat):Value:=.func (.func 180) #[] #[.pointer (some ⟨B+1,0,none⟩),.pointer (some ⟨B,0,none⟩),.pointer (some ⟨B+1+1,0,none⟩)]
theorem zgc {w:World}(n:Nat)(s:ByteArray) :
  CallsIn Fence.wide n Tryz.prog 164 #[.string s,.string ⟨#[46]⟩,.int .i64 0] w fun e w'=>e= .returned (zpn w.heap.size) ∧
   w'=((w.alloc (.cells #[.string s] 9)).alloc (.cells #[.string ⟨#[46]⟩] 9)).alloc (.cells #[.int .i64 0] 3):=by
 refine callsIn_of_wp Tryz.func164 rfl trivial ?_ rfl
 simp only[Tryz.ntmps164,List.size_toArray,List.length_cons,List.length_nil,Nat.reduceAdd,Nat.reduceSub,Array.replicate_succ,Array.replicate_zero,List.push_toArray,List.append_toArray,List.nil_append,List.cons_append]
 gi_wp2
 go_ret
 exact⟨rfl,rfl⟩
theorem zgd {w:World}(n:Nat)(hn:1≤n)(s:ByteArray) :
  CallsIn Fence.wide n Tryz.prog 153 #[.string s,.string ⟨#[46]⟩] w fun e w'=>e= .returned (zpn w.heap.size) ∧
   w'=((w.alloc (.cells #[.string s] 9)).alloc (.cells #[.string ⟨#[46]⟩] 9)).alloc (.cells #[.int .i64 0] 3):=by
 refine callsIn_of_wp Tryz.func153 rfl trivial ?_ rfl
 simp only[Tryz.ntmps153,List.size_toArray,List.length_cons,List.length_nil,Nat.reduceAdd,Nat.reduceSub,Array.replicate_succ,Array.replicate_zero,List.push_toArray,List.append_toArray,List.nil_append,List.cons_append]
 gi_wp2_with (refine⟨trivial,?_⟩;gi_at_call 164;refine (zgc _ s).mono ?_;rintro e w' ⟨rfl,rfl⟩)
 go_ret
 exact⟨rfl,rfl⟩
end
section
open Go.RowKit Go.Shelf
attribute [local go_sem] Oper.semAt_some
theorem zmE (t:ByteArray):zaC [⟨t,[]⟩]=zan t:=by
 unfold zaC zbj
 rw[if_neg (by simp)]
 cases h:zan t with
 | false=>rw[zbB,if_pos h];decide
 | true =>
  rw[zbB,if_neg (by rw[h];decide),if_neg (by simp[zcQ]),if_neg (by simp)]
  simp[zao,zbB]
theorem zmF (t:List UInt8)(ht:t.length≤140737488355328)(w:World) :
  Calls Tryz.prog 154 #[zbA t] w fun e w'=>e= .returned (.bool (zan ⟨t.toArray⟩))∧Below w.heap.size w w':=by
 have H2:Hid (∀ W,W=(w.alloc (.cells #[.string ⟨t.toArray⟩,.slice none 0 0] 64))→zaj W (.slice (some ⟨w.heap.size,0,none⟩) 1 1) [⟨⟨t.toArray⟩,[]⟩]∧Below w.heap.size w W):=by
  rintro W rfl
  refine⟨zh7 (Blk.new w [.string ⟨t.toArray⟩,.slice none 0 0] _) (by rw[zdh];exact ht) ?_,(Below.refl _ _).alloc (Nat.le_refl _) _⟩
  exact⟨⟨by simp,by simp,_,_,rfl,Nat.le_refl _,by omega,fun _=>rfl,fun j u hu=>by simp at hu⟩,by simp⟩
 unfold zbA
 clear ht
 go_enter Tryz.func154,Tryz.ntmps154
 go_wp2_with fail
 obtain⟨hS,hb⟩:=H2.out _ rfl
 have HB:=hid hb
 refine (zct hS).mono ?_
 rintro e w1 ⟨rfl,hb1⟩
 have HB2:=hid (HB.out.trans (hb1.mono HB.out.size))
 rw[zmE]
 clear hS hb hb1 H2 HB
 go_wp2_with fail
 go_ret
 exact⟨rfl,HB2.out⟩
theorem zaq.later {w w':World}{base:Nat}{v:Value}{l:List (List UInt8)}(h:zaq w base v l)(hb:Below w.heap.size w w'):zaq w' base v l:=
 zbk h fun b _ _ he=>hb.block b (Array.getElem?_eq_some_iff.1 he).1
theorem zaq.mono {W:World}{b b':Nat}{v:Value}{l:List (List UInt8)}(h:zaq W b v l)(hb:b'≤b):zaq W b' v l:=by
 refine⟨h.1,?_⟩
 rcases h.2 with h2|⟨g,cap,cur,hv,hg,h3⟩
 ·
  exact .inl h2
 ·
  exact .inr ⟨g,cap,cur,hv,by omega,h3⟩
def zdX (l:List (List UInt8)):Bool:=l.all fun t=>zan ⟨t.toArray⟩
def zdi (p:List UInt8):Bool:=decide ((zdg p).length≤65)&&zdX (zdg p)
theorem zof {F:Fence}{n:Nat}{P:Program}{g:Operand}{ps:Array Tmp}{assign body:Code}{Q:Exit→Act→World→Prop}{a:Act}{w:World}
  (h:∀ ac bd,Hid (ac=assign)→Hid (bd=body)→(Code.rangeFunc g ps ac bd).wpIn F n P Q a w):(Code.rangeFunc g ps assign body).wpIn F n P Q a w:=
 h _ _ rfl rfl
structure SpA (w:World)(rec:Loop)(rv:Value)(code:Nat)(lv:Value)(ls:List (List UInt8))(rest:List UInt8)(W:World):Prop where
 r0:Blk W w.heap.size [rv] 25
 r1:Blk W (w.heap.size+1) [.int .u8 code] 44
 lb:Blk W (w.heap.size+1+1) [lv] 25
 sb:Blk W (w.heap.size+1+1+1) [zbA rest] 9
 pb:Blk W (w.heap.size+1+1+1+1) [.string ⟨#[46]⟩] 9
 qb:Blk W (w.heap.size+1+1+1+1+1) [.int .i64 0] 3
 D:W.heap[w.heap.size+1+1+1+1+1+1]?=some (.deferred (some []))
 L:W.heap[w.heap.size+1+1+1+1+1+1+1]?=some (.loop rec)
 own:zaq W (w.heap.size+1+1+1+1+1+1+1+1) lv ls
 B:Below w.heap.size w W
theorem zfY {W:World}{b:Nat}{o:Obj}(h:W.heap[b]?=some o):b<W.heap.size:=(Array.getElem?_eq_some_iff.1 h).1
theorem SpA.below {w:World}{rec:Loop}{rv:Value}{code:Nat}{lv:Value}{ls:List (List UInt8)}{rest:List UInt8}{W W':World}(h:SpA w rec rv code lv ls rest W)(hb:Below W.heap.size W W'):SpA w rec rv code lv ls rest W':=
 ⟨h.r0.below hb,h.r1.below hb,h.lb.below hb,h.sb.below hb,h.pb.below hb,h.qb.below hb,(hb.block _ (zfY h.D)).trans h.D,(hb.block _ (zfY h.L)).trans h.L,h.own.later hb,h.B.trans (hb.mono h.B.size)⟩
theorem SpA.put {w:World}{rec:Loop}{rv:Value}{code:Nat}{lv:Value}{ls:List (List UInt8)}{rest:List UInt8}{W:World}(h:SpA w rec rv code lv ls rest W)(rec':Loop) :
  SpA w rec' rv code lv ls rest (W.putObj (w.heap.size+1+1+1+1+1+1+1) (.loop rec')):=
 ⟨h.r0.put _ (by omega),h.r1.put _ (by omega),h.lb.put _ (by omega),h.sb.put _ (by omega),h.pb.put _ (by omega),h.qb.put _ (by omega),(World.putObj_heap_other (by omega)).trans h.D,
  World.putObj_heap_same (zfY h.L),zbk h.own (fun b _ hb _=>World.putObj_heap_other (by omega)),belowK_b (Nat.le_refl _) W _ _ _ (by omega) h.L rfl rfl |> fun hb=>h.B.trans hb⟩
theorem SpA.store {w:World}{rec:Loop}{rv:Value}{code:Nat}{lv:Value}{ls:List (List UInt8)}{rest:List UInt8}{W W':World}(h:SpA w rec rv code lv ls rest W){r:Nat}(hr:w.heap.size≤r)(hr2:r<w.heap.size+1+1+1+1+1+1)(hg:W.grownBy W' (some r))
  {rv':Value} {code':Nat} {lv':Value} {rest':List UInt8} (h0:Blk W' w.heap.size [rv'] 25) (h1:Blk W' (w.heap.size+1) [.int .u8 code'] 44) (h2:Blk W' (w.heap.size+1+1) [lv'] 25) (h3:Blk W' (w.heap.size+1+1+1) [zbA rest'] 9)
  (h4:Blk W' (w.heap.size+1+1+1+1) [.string ⟨#[46]⟩] 9) (h5:Blk W' (w.heap.size+1+1+1+1+1) [.int .i64 0] 3) {ls':List (List UInt8)} (ho:zaq W' (w.heap.size+1+1+1+1+1+1+1+1) lv' ls'):SpA w rec rv' code' lv' ls' rest' W':=
 ⟨h0,h1,h2,h3,h4,h5,(hg.block _ (zfY h.D) (fun e=>by cases e;omega)).trans h.D,(hg.block _ (zfY h.L) (fun e=>by cases e;omega)).trans h.L,ho,h.B.grown hg h.B.size (fun q e=>by cases e;exact hr)⟩
theorem zhp (W:World)(a:Addr)(v:Value):W.grownBy (W.setCell a v) (some a.block):=
 ⟨rfl,rfl,rfl,by simp,fun k _ hr=>Below.heap_setCell W _ _ k (fun e=>hr (by rw[e]))⟩
theorem SpA.setS {w:World}{rec:Loop}{rv:Value}{code:Nat}{lv:Value}{ls:List (List UInt8)}{rest:List UInt8}{W:World}(h:SpA w rec rv code lv ls rest W)(rest':List UInt8):SpA w rec rv code lv ls rest' (W.setCell ⟨w.heap.size+1+1+1,0,none⟩ (zbA rest')):=
 h.store (r:=w.heap.size+1+1+1) (by omega) (by omega) (zhp W _ _) (h.r0.set_other _ _ (by first|(simp;done)|(simp;omega))) (h.r1.set_other _ _ (by first|(simp;done)|(simp;omega))) (h.lb.set_other _ _ (by first|(simp;done)|(simp;omega))) (by simpa using h.sb.set 0 (zbA rest')) (h.pb.set_other _ _ (by first|(simp;done)|(simp;omega))) (h.qb.set_other _ _ (by first|(simp;done)|(simp;omega)))
  (zbk h.own fun b _ hb _=>Below.heap_setCell W _ _ b (by simp;omega))
theorem SpA.set0 {w:World}{rec:Loop}{rv:Value}{code:Nat}{lv:Value}{ls:List (List UInt8)}{rest:List UInt8}{W:World}(h:SpA w rec rv code lv ls rest W)(x:Value):SpA w rec x code lv ls rest (W.setCell ⟨w.heap.size,0,none⟩ x):=
 h.store (r:=w.heap.size) (by omega) (by omega) (zhp W _ _) (by simpa using h.r0.set 0 x) (h.r1.set_other _ _ (by first|(simp;done)|(simp;omega))) (h.lb.set_other _ _ (by first|(simp;done)|(simp;omega))) (h.sb.set_other _ _ (by first|(simp;done)|(simp;omega))) (h.pb.set_other _ _ (by first|(simp;done)|(simp;omega))) (h.qb.set_other _ _ (by first|(simp;done)|(simp;omega)))
  (zbk h.own fun b _ hb _=>Below.heap_setCell W _ _ b (by simp;omega))
theorem SpA.set1 {w:World}{rec:Loop}{rv:Value}{code:Nat}{lv:Value}{ls:List (List UInt8)}{rest:List UInt8}{W:World}(h:SpA w rec rv code lv ls rest W)(c:Nat):SpA w rec rv c lv ls rest (W.setCell ⟨w.heap.size+1,0,none⟩ (.int .u8 c)):=
 h.store (r:=w.heap.size+1) (by omega) (by omega) (zhp W _ _) (h.r0.set_other _ _ (by first|(simp;done)|(simp;omega))) (by simpa using h.r1.set 0 (.int .u8 c)) (h.lb.set_other _ _ (by first|(simp;done)|(simp;omega))) (h.sb.set_other _ _ (by first|(simp;done)|(simp;omega))) (h.pb.set_other _ _ (by first|(simp;done)|(simp;omega))) (h.qb.set_other _ _ (by first|(simp;done)|(simp;omega)))
  (zbk h.own fun b _ hb _=>Below.heap_setCell W _ _ b (by simp;omega))
theorem SpA.push {w:World}{rec:Loop}{rv:Value}{code:Nat}{lv:Value}{ls:List (List UInt8)}{rest:List UInt8}{W w':World}(h:SpA w rec rv code lv ls rest W)(hg:W.grownBy w' lv.ownBlock){lv':Value}{ls':List (List UInt8)}(ho:zaq w' (w.heap.size+1+1+1+1+1+1+1+1) lv' ls') :
  SpA w rec rv code lv' ls' rest (w'.setCell ⟨w.heap.size+1+1,0,none⟩ lv')∧Blk w' (w.heap.size+1+1) [lv] 25:=by
 have hk:∀ b o,W.heap[b]?=some o→b<w.heap.size+1+1+1+1+1+1+1+1→w'.heap[b]?=some o:=fun b o hb hlt=>by
  refine (hg.block b (zfY hb) fun e=>?_).trans hb
  have:=(World.ownsRow.lt h.own b e.symm).1
  omega
 have b0:Blk w' _ _ _:=hk _ _ h.r0 (by omega)
 have b1:Blk w' _ _ _:=hk _ _ h.r1 (by omega)
 have b2:Blk w' _ _ _:=hk _ _ h.lb (by omega)
 have b3:Blk w' _ _ _:=hk _ _ h.sb (by omega)
 have b4:Blk w' _ _ _:=hk _ _ h.pb (by omega)
 have b5:Blk w' _ _ _:=hk _ _ h.qb (by omega)
 have hB:Below w.heap.size w w':=h.B.grown hg h.B.size (fun q e=>by have:=(World.ownsRow.lt h.own q e).1;omega)
 refine⟨⟨b0.set_other _ _ (by first|(simp;done)|(simp;omega)),b1.set_other _ _ (by first|(simp;done)|(simp;omega)),by simpa using b2.set 0 lv',b3.set_other _ _ (by first|(simp;done)|(simp;omega)),b4.set_other _ _ (by first|(simp;done)|(simp;omega)),b5.set_other _ _ (by first|(simp;done)|(simp;omega)),
  (Below.heap_setCell w' _ _ _ (by first|(simp;done)|(simp;omega))).trans (hk _ _ h.D (by omega)),(Below.heap_setCell w' _ _ _ (by first|(simp;done)|(simp;omega))).trans (hk _ _ h.L (by omega)),zbk ho fun b _ hb _=>Below.heap_setCell w' _ _ b (by simp;omega),hB.setCell (by simp;omega) _⟩,b2⟩
def zpo (w:World)(c:Nat)(l:List (List UInt8))(e:Ending)(w':World):Prop:=∃ v',e= .returned (.tuple #[v',.int .u8 (c:Int)])∧zaq w' w.heap.size v' l∧Below w.heap.size w w'
def zen (w:World)(p:List UInt8)(e:Ending)(w':World):Prop:=zpo w (if zdi p=true then 0 else 12) (if zdi p=true then zdg p else []) e w'
theorem zij {p:List UInt8}{pre:List (List UInt8)}{x:List UInt8}(h:pre++[x] <+: zdg p)(hb:pre.length=65∨zan ⟨x.toArray⟩=false):zdi p=false:=by
 obtain⟨r,e⟩:=h
 unfold zdi zdX
 rw[←e]
 rcases hb with hb|hb
 ·
  have:¬ (pre++[x]++r).length≤65:=by simp;omega
  rw[decide_eq_false this,Bool.false_and]
 ·
  simp[hb]
def zmG (fn:FuncId)(H:Nat)(p:List UInt8)(ac bd:Code)(st:LoopState)(zoI:Option Code):Loop:=
 { state:=st,pending:=zoI,fn,tmps:=#[zbA p,undef,.pointer (some ⟨H,0,none⟩),.pointer (some ⟨H+1,0,none⟩),.pointer (some ⟨H+1+1,0,none⟩),undef,zbA p,zpn (H+1+1+1),undef,undef,undef,undef,undef,undef,undef,undef,undef,undef,undef,undef,undef,undef],params:=#[8],assign:=ac,body:=bd,defers:=H+1+1+1+1+1+1 }
theorem zmH {w:World}(p:List UInt8)(hp:p.length≤1099511627776) :
  Calls Tryz.prog 125 #[zbA p] w (zen w p):=by
 refine (callsIn_wide (n:=4)).1 ?_
 refine callsIn_of_wp_marks Tryz.func125 rfl trivial ?_ rfl
 simp only[Tryz.ntmps125,List.size_toArray,List.length_cons,List.length_nil,Nat.reduceAdd,Nat.reduceSub,Array.replicate_succ,Array.replicate_zero,List.push_toArray,List.append_toArray,List.nil_append,List.cons_append]
 have hn1:1≤4:=by omega
 have hn2:1≤4 - 1:=by omega
 have HVP:Hid (zbA p= .string ⟨p.toArray⟩):=rfl
 rw[HVP.out]
 gi_wp2_with (refine⟨trivial,?_⟩;gi_at_call 153;refine (zgd _ hn2 _).mono ?_;rintro e w' ⟨rfl,rfl⟩)
 refine zof ?_
 intro ac bd HAC HBD
 refine wpIn_rangeFunc ?_
 intro fn hfn
 obtain⟨W0,HW0⟩:∃ W0,Hid (W0=((((((w.alloc (.cells #[.slice none 0 0] 25)).alloc (.cells #[.int .u8 0] 44)).alloc (.cells #[.slice none 0 0] 25)).alloc (.cells #[.string ⟨p.toArray⟩] 9)).alloc (.cells #[.string ⟨#[46]⟩] 9)).alloc (.cells #[.int .i64 0] 3))):=⟨_,rfl⟩
 rw[←HW0.out]
 obtain⟨rr,HRR⟩:∃ rr,Hid (rr=zmG fn w.heap.size p ac bd .ready none):=⟨_,rfl⟩
 obtain⟨rd,HRD⟩:∃ rd,Hid (rd=zmG fn w.heap.size p ac bd .done (some .ret)):=⟨_,rfl⟩
 obtain⟨W1,HW1⟩:∃ W1,Hid (W1=(W0.alloc (.deferred (some []))).alloc (.loop rr)):=⟨_,rfl⟩
 have hs0:W0.heap.size=w.heap.size+1+1+1+1+1+1:=by rw[HW0.out];simp
 have hM:SpA w rr (.slice none 0 0) 0 (.slice none 0 0) [] p W1:=by
  have e0:=Blk.new w [.slice none 0 0] 25
  have e1:=Blk.new (w.alloc (.cells #[.slice none 0 0] 25)) [.int .u8 0] 44
  have e2:=Blk.new ((w.alloc (.cells #[.slice none 0 0] 25)).alloc (.cells #[.int .u8 0] 44)) [.slice none 0 0] 25
  have e3:=Blk.new (((w.alloc (.cells #[.slice none 0 0] 25)).alloc (.cells #[.int .u8 0] 44)).alloc (.cells #[.slice none 0 0] 25)) [.string ⟨p.toArray⟩] 9
  have e4:=Blk.new ((((w.alloc (.cells #[.slice none 0 0] 25)).alloc (.cells #[.int .u8 0] 44)).alloc (.cells #[.slice none 0 0] 25)).alloc (.cells #[.string ⟨p.toArray⟩] 9)) [.string ⟨#[46]⟩] 9
  have e5:=Blk.new (((((w.alloc (.cells #[.slice none 0 0] 25)).alloc (.cells #[.int .u8 0] 44)).alloc (.cells #[.slice none 0 0] 25)).alloc (.cells #[.string ⟨p.toArray⟩] 9)).alloc (.cells #[.string ⟨#[46]⟩] 9)) [.int .i64 0] 3
  have e6:=heap_alloc_new W0 (.deferred (some []))
  have e7:=heap_alloc_new (W0.alloc (.deferred (some []))) (.loop rr)
  simp only[World.size_alloc] at e1 e2 e3 e4 e5 e7
  rw[hs0] at e6 e7
  rw[HW1.out]
  refine⟨?_,?_,?_,?_,?_,?_,?_,e7,World.ownsRow_nil _ _ _ _,?_⟩
  ·
   exact Blk.alloc (Blk.alloc (by rw[HW0.out];exact (((((e0.alloc _).alloc _).alloc _).alloc _).alloc _)) _) _
  ·
   exact Blk.alloc (Blk.alloc (by rw[HW0.out];exact ((((e1.alloc _).alloc _).alloc _).alloc _)) _) _
  ·
   exact Blk.alloc (Blk.alloc (by rw[HW0.out];exact (((e2.alloc _).alloc _).alloc _)) _) _
  ·
   exact Blk.alloc (Blk.alloc (by rw[HW0.out];exact ((e3.alloc _).alloc _)) _) _
  ·
   exact Blk.alloc (Blk.alloc (by rw[HW0.out];exact (e4.alloc _)) _) _
  ·
   exact Blk.alloc (Blk.alloc (by rw[HW0.out];exact e5) _) _
  ·
   exact (Below.heap_alloc _ _ _ (by simp;omega)).trans e6
  ·
   have:Below w.heap.size w W0:=by
    rw[HW0.out]
    (with_reducible repeat first|exact Below.refl _ _|refine pzA ?_ _|refine pzB ?_ _|refine zab ?_ _|refine Below.drew ?_)
   exact (this.alloc (by omega) _).alloc (by simp;omega) _
 have hround:∀ (pre:List (List UInt8)) (rest x:List UInt8) (lv:Value) (W:World),pre.length≤65→x.length≤1099511627776→SpA w rr (.slice none 0 0) 0 lv pre rest W →
   YieldAt Fence.wide (4 - 1 - 1) Tryz.prog (w.heap.size+1+1+1+1+1+1+1) #[zbA x] W fun e' W' =>
    (e'= .returned (.bool true)∧(pre.length<65∧zan ⟨x.toArray⟩=true)∧∃ lv',SpA w rr (.slice none 0 0) 0 lv' (pre++[x]) rest W') ∨
    (e'= .returned (.bool false)∧(pre.length=65∨zan ⟨x.toArray⟩=false)∧∃ lv',SpA w rd (.slice none 0 0) 12 lv' pre rest W'):=by
  intro pre rest x lv W hpre hx hC
  refine⟨fn,_,ac,bd,by simpa [HRR.out,zmG] using run_yield (P:=Tryz.prog) (args:=#[zbA x]) hC.L (by rw[HRR.out];rfl),roundIn_of_wpIn hfn ?_⟩
  have hlt:=zfY hC.L
  rw[HAC.out]
  have HX:=hid hx
  have HVX:Hid (zbA x= .string ⟨x.toArray⟩):=rfl
  rw[HVX.out]
  clear hx
  gi_wp2
  refine⟨_,run_beginRound hC.L (by rw[HRR.out];rfl),?_⟩
  have hC2:=hC.put { rr with state:=.busy }
  obtain⟨W2,HW2⟩:∃ W2,Hid (W2=W.putObj (w.heap.size+1+1+1+1+1+1+1) (.loop { rr with state:=.busy })):=⟨_,rfl⟩
  rw[←HW2.out] at hC2 ⊢
  rw[HBD.out]
  obtain⟨a,c,e⟩:=hC2.own.form
  obtain⟨k,HK⟩:∃ k,Hid (k=pre.length):=⟨_,rfl⟩
  rw[←HK.out] at e hpre
  subst e
  have n0:=hC2.lb.cell 0 _ rfl
  have nz:=hC2.lb.free 0
  have z0:=hC2.r0.free 0
  have z1:=hC2.r1.free 0
  have q0:=hC2.r0.cell 0 _ rfl
  have q1:=hC2.r1.cell 0 _ rfl
  by_cases hk:k=65
  ·
   subst hk
   gi_wp2
   refine⟨trivial,?_⟩
   gi_wp2
   have hC3:SpA w { rr with state:=.busy } (.slice none 0 0) 12 _ pre rest ((W2.setCell ⟨w.heap.size,0,none⟩ (.slice none 0 0)).setCell ⟨w.heap.size+1,0,none⟩ (.int .u8 12)):=(hC2.set0 _).set1 12
   have hC4:=hC3.put rd
   have hrd:({ ({ rr with state:=.busy }:Loop) with state:=.done,pending:=some .ret }:Loop)=rd:=by rw[HRR.out,HRD.out];rfl
   exact⟨_,_,run_endRound (P:=Tryz.prog) (some .ret) hC3.L,.inr ⟨rfl,.inl HK.out.symm,_,by simpa [hrd] using hC4⟩⟩
  ·
   have hk1:k<65:=by omega
   have hke:decide ((k:Int)=65)=false:=decide_eq_false (by omega)
   have hke2:((k:Int) == 65)=false:=by simp;omega
   clear hk
   gi_wp2
   refine⟨trivial,?_⟩
   have hpn:=zmF x (by have:=HX.out;omega) W2
   rw[HVX.out] at hpn
   refine (CallsIn.inRound (w.heap.size+1+1+1+1+1+1+1) (callsIn_wide.2 hpn)).mono ?_
   rintro e w3 ⟨rfl,hb3⟩
   have hC3:=hC2.below hb3
   clear hpn hb3 n0 nz z0 z1 q0 q1
   have n0:=hC3.lb.cell 0 _ rfl
   have nz:=hC3.lb.free 0
   have z0:=hC3.r0.free 0
   have z1:=hC3.r1.free 0
   have q0:=hC3.r0.cell 0 _ rfl
   have q1:=hC3.r1.cell 0 _ rfl
   cases hnm:zan ⟨x.toArray⟩ with
   | false =>
    have HNM:=hid hnm
    clear hnm
    gi_wp2
    have hC3':SpA w { rr with state:=.busy } (.slice none 0 0) 12 _ pre rest ((w3.setCell ⟨w.heap.size,0,none⟩ (.slice none 0 0)).setCell ⟨w.heap.size+1,0,none⟩ (.int .u8 12)):=(hC3.set0 _).set1 12
    have hC4:=hC3'.put rd
    have hrd:({ ({ rr with state:=.busy }:Loop) with state:=.done,pending:=some .ret }:Loop)=rd:=by rw[HRR.out,HRD.out];rfl
    exact⟨_,_,run_endRound (P:=Tryz.prog) (some .ret) hC3'.L,.inr ⟨rfl,.inr HNM.out,_,by simpa [hrd] using hC4⟩⟩
   | true =>
    have HNM:=hid hnm
    clear hnm
    obtain⟨v5,w5,hr5,hO5,hg5⟩:=hC3.own.one x (by have:=HK.out;omega) (by have:=zfY hC3.L;omega)
    obtain⟨hC5,hb5⟩:=hC3.push hg5 hO5
    obtain⟨a5,c5,e5⟩:=hO5.form
    obtain⟨k5,HK5⟩:∃ k5,Hid (k5=(pre++[x]).length):=⟨_,rfl⟩
    rw[←HK5.out] at e5
    subst e5
    rw[HVX.out] at hr5
    have HR5:=hid hr5
    have HC5:=hid hC5
    have m0:=hb5.cell 0 _ rfl
    have mz:=hb5.free 0
    have ml:=hb5.lt
    clear hr5 hO5 hg5 hC5 hb5
    gi_wp2_with (gi_at_builtin;refine zeT rfl (.tmp 17) (.tmp 19) 25 25 rfl _ _ rfl rfl HR5.out ?_)
    have hC6:=HC5.out.put rr
    have hrd:({ ({ rr with state:=.busy }:Loop) with state:=.ready,pending:=none }:Loop)=rr:=by rw[HRR.out];rfl
    exact⟨_,_,run_endRound (P:=Tryz.prog) none HC5.out.L,.inl ⟨rfl,⟨by have:=HK.out;omega,HNM.out⟩,_,by simpa [hrd] using hC6⟩⟩
 refine⟨W0.heap.size+1,[{ target:=.collected W0.heap.size,args:=#[] }],W1,{ target:=.fn (.func 180) #[.pointer (some ⟨w.heap.size+1+1+1+1,0,none⟩),.pointer (some ⟨w.heap.size+1+1+1,0,none⟩),.pointer (some ⟨w.heap.size+1+1+1+1+1,0,none⟩)],args:=#[.func (.yield (W0.heap.size+1)) #[] #[]] },W1,180,
  #[.func (.yield (W0.heap.size+1)) #[] #[],.pointer (some ⟨w.heap.size+1+1+1+1,0,none⟩),.pointer (some ⟨w.heap.size+1+1+1,0,none⟩),.pointer (some ⟨w.heap.size+1+1+1+1+1,0,none⟩)],W1,?_,?_,?_,?_,fun _=>hn1,?_⟩
 ·
  rw[HW1.out,HRR.out,zmG,←hs0];exact run_enterLoop_outer _ _ _ _ _
 ·
  simp[resolve,go_sem,zpn]
 ·
  intro f' hf';trivial
 ·
  simp[invoke,go_sem]
 ·
  refine CallsIn.mono (R:=fun e W'=>(∃ v,e= .returned v)∧((∃ rest lv,SpA w rr (.slice none 0 0) 0 lv (zdg p) rest W'∧(zdg p).length≤65∧zdX (zdg p)=true) ∨
    ∃ pre x rest lv,pre++[x] <+: zdg p∧(pre.length=65∨zan ⟨x.toArray⟩=false)∧SpA w rd (.slice none 0 0) 12 lv pre rest W')) ?_ ?_
  ·
   rw[hs0]
   refine (zqa (4 - 1) (by omega) _ _ _ _ p (by omega) (fun pre rest W=>(∃ lv,SpA w rr (.slice none 0 0) 0 lv pre rest W)∧pre.length≤65∧zdX pre=true) (fun es W=>∃ pre x rest lv,es=pre++[x]∧(pre.length=65∨zan ⟨x.toArray⟩=false)∧SpA w rd (.slice none 0 0) 12 lv pre rest W)
    (fun pre rest W hC=>?_) (fun pre rest rest' W hC=>⟨⟨_,(hC.1.choose_spec).setS rest'⟩,hC.2⟩) ?_ W1 ⟨⟨_,hM⟩,by simp,rfl⟩).mono ?_
   ·
    obtain⟨⟨lv,hC⟩,-⟩:=hC
    exact⟨hC.pb.cell 0 _ rfl,hC.sb.cell 0 _ rfl,hC.sb.free 0,hC.qb.cell 0 _ rfl⟩
   ·
    rintro pre rest W x hlt ⟨⟨lv,hC⟩,h65,hnames⟩ hx
    obtain⟨fn',tm,as',bo,hy,hR⟩:=hround pre rest x lv W h65 (by omega) hC
    refine⟨fn',tm,as',bo,hy,hR.mono ?_⟩
    rintro e' W' (⟨h1,h2,lv',h3⟩|⟨h1,h2,lv',h3⟩)
    ·
     refine .inl ⟨h1,⟨lv',h3⟩,by rw[List.length_append];simp;omega,?_⟩
     unfold zdX at hnames ⊢
     rw[List.all_append,hnames]
     simp[h2.2]
    ·
     exact .inr ⟨h1,pre,x,rest,lv',rfl,h2,h3⟩
   ·
    rintro e W' ⟨hv,⟨rest,⟨lv,hC⟩,h65,hnm⟩|⟨es,hpre,pre,x,rest,lv,rfl,hbad,hC⟩⟩
    ·
     exact⟨hv,.inl ⟨rest,lv,hC,h65,hnm⟩⟩
    ·
     exact⟨hv,.inr ⟨pre,x,rest,lv,hpre,hbad,hC⟩⟩
  ·
   rintro e W' ⟨⟨v,rfl⟩,⟨rest,lv,hC,h65,hnm⟩|⟨pre,x,rest,lv,hpre,hbad,hC⟩⟩
   ·
    have hE:=run_endLoop (P:=Tryz.prog) hC.L (by simp[HRR.out,zmG])
    have hC2:=hC.put { (rr:Loop) with state:=.exhausted }
    obtain⟨W3,HW3⟩:∃ W3,Hid (W3=W'.putObj (w.heap.size+1+1+1+1+1+1+1) (.loop { (rr:Loop) with state:=.exhausted })):=⟨_,rfl⟩
    rw[←HW3.out] at hC2 hE
    have HOK:Hid (zdi p=true):=by
     rw[Hid,zdi,hnm];simpa using h65
    refine⟨none,W3,by rw[hs0,hE,HRR.out];rfl,?_⟩
    simp only
    rw[hs0]
    obtain⟨a,c,e⟩:=hC2.own.form
    obtain⟨k,HK⟩:∃ k,Hid (k=(zdg p).length):=⟨_,rfl⟩
    rw[←HK.out] at e
    subst e
    have c0:=hC2.r0.cell 0 _ rfl
    have c1:=hC2.r1.cell 0 _ rfl
    have f0:=hC2.r0.free 0
    have f1:=hC2.r1.free 0
    have cn:=hC2.lb.cell 0 _ rfl
    have HC2:=hid hC2
    clear hC hE hnm h65 hC2
    gi_wp2
    obtain⟨e1,e2,e3,e4⟩:=zkt HC2.out.r0 HC2.out.r1 HC2.out.D (by omega) (Nat.le_refl _) (by omega) (by omega) HC2.out.B (.slice a k c) (.int .u8 0)
    refine⟨by simp,.inl ⟨_,_,rfl,run_takeDeferred (P:=Tryz.prog) e1,?_⟩⟩
    refine⟨_,by simp[results,Tryz.f125,go_sem,e2,e3];rfl,?_⟩
    rw[zen,if_pos HOK.out,if_pos HOK.out]
    refine⟨.slice a k c,rfl,?_,e4⟩
    have ho:=HC2.out.own
    refine zaq.mono (b:=w.heap.size+1+1+1+1+1+1+1+1) (zbk ho fun b _ hb _=>?_) (by omega)
    rw[World.putObj_heap_other (by omega)]
    exact (Below.heap_setCell _ _ _ _ (by first|(simp;done)|(simp;omega))).trans (Below.heap_setCell _ _ _ _ (by first|(simp;done)|(simp;omega)))
   ·
    have hE:=run_endLoop (P:=Tryz.prog) hC.L (by simp[HRD.out,zmG])
    have hC2:=hC.put { (rd:Loop) with state:=.exhausted }
    obtain⟨W3,HW3⟩:∃ W3,Hid (W3=W'.putObj (w.heap.size+1+1+1+1+1+1+1) (.loop { (rd:Loop) with state:=.exhausted })):=⟨_,rfl⟩
    rw[←HW3.out] at hC2 hE
    refine⟨some .ret,W3,by rw[hs0,hE,HRD.out];rfl,?_⟩
    simp only
    rw[hs0]
    gi_wp2
    obtain⟨e2,e3,e4⟩:=zjt hC2.r0 hC2.r1 hC2.D (by omega) hC2.B
    refine⟨by simp,.inl ⟨_,_,rfl,run_takeDeferred (P:=Tryz.prog) hC2.D,?_⟩⟩
    refine⟨_,by simp[results,Tryz.f125,go_sem,e2,e3];rfl,?_⟩
    rw[zen,if_neg (by rw[zij hpre hbad];decide),if_neg (by rw[zij hpre hbad];decide)]
    exact⟨.slice none 0 0,rfl,World.ownsRow_nil _ _ _ _,e4⟩
end
section
open Go.RowKit
theorem zke (w:World):(sizeOf 9).run Tryz.prog w= .ok 1 w:=by kernel_rfl
theorem zik (x:List UInt8):∀ {l:List (List UInt8)},l≠[]→zbl (l++[x])=zbl l++46::x
 | [],h=>absurd rfl h
 | [y],_=>by simp[zbl]
 | y::z::r,_=>by
  have:=zik x (l:=z::r) (by simp)
  rw[List.cons_append] at this
  rw[List.cons_append,List.cons_append,zbl,this,zbl]
  simp
theorem zfH (a b:List UInt8):(⟨a.toArray⟩:ByteArray)++(⟨b.toArray⟩:ByteArray)=⟨(a++b).toArray⟩:=by
 apply ByteArray.ext
 simp
theorem zeo:∀ l:List (List UInt8),(zbl l).length≤twt l
 | []=>by simp[zbl]
 | [x]=>by simp[zbl,twt]
 | x::y::r=>by
  have:=zeo (y::r)
  rw[zbl]
  simp[twt] at this ⊢
  omega
theorem zog (l:List (List UInt8))(k:Nat):twt (l.take k)≤twt l:=zeQ _ l k
theorem zmI {w:World}{v:Value}{l:List (List UInt8)}(h:zaV w v l)(hw:twt l≤1099511627776) :
  Calls Tryz.prog 70 #[v] w fun e w'=>e= .returned (zbA (zbl l))∧Below w.heap.size w w':=by
 obtain⟨hl,a,c,rfl,-,hat⟩:=h.open
 obtain⟨n,HN⟩:∃ n,Hid (n=l.length):=⟨_,rfl⟩
 rw[←HN.out] at hl ⊢
 have HAT:=hid hat
 have HW:=hid hw
 clear hat h hw
 go_enter Tryz.func70,Tryz.ntmps70
 go_wp2_with fail
 go_loopw [3,4] (fun v3 v4 wr=>∃ (s:ByteArray) (i:Nat),v3= .string s∧v4= .int .i64 i∧i≤n∧s.size≤1099511627776∧Hid (s=⟨(zbl (l.take i)).toArray⟩)∧w=wr) (fun _ v4 _=>n - (intOf v4).toNat)
 case atStart=>exact⟨⟨#[]⟩,0,rfl,rfl,by omega,by decide,rfl,rfl⟩
 case round =>
  obtain⟨s,i,rfl,rfl,hi,hs,HS,rfl⟩:=hrel
  by_cases hlt:i<n
  ·
   have hxi:l[i]?=some (l[i]'(by rw[←HN.out];exact hlt)):=List.getElem?_eq_getElem _
   generalize l[i]'(by rw[←HN.out];exact hlt)=z at hxi
   obtain⟨hzl,b,o,ha,g0⟩:=HAT.out i z hxi
   have hix:=zag Tryz.underlying25 zke ha i hlt (cap:=c)
   have hbl:b<w.heap.size:=World.block_lt_of_cell? w _ g0
   have htk:l.take (i+1)=l.take i++[z]:=by rw[List.take_add_one,hxi];rfl
   have hlen:(zbl (l.take (i+1))).length≤1099511627776:=Nat.le_trans (zeo _) (Nat.le_trans (zog l (i+1)) HW.out)
   unfold zbA at g0
   have HXZ:=hid (And.intro htk hlen)
   have hzs:(⟨z.toArray⟩:ByteArray).size≤1099511627776:=by
    rw[zdh]
    have h1:=zau (fun t:List UInt8=>1+t.length) l z (List.mem_of_getElem? hxi)
    have h2:=HW.out
    unfold twt at h2
    omega
   obtain⟨zs,HZS⟩:∃ zs:ByteArray,Hid (zs=⟨z.toArray⟩):=⟨_,rfl⟩
   rw[←HZS.out] at g0 hzs
   clear hxi hzl htk hlen
   by_cases h0:i=0
   ·
    subst h0
    have hix0:=zir Tryz.underlying25 zke ha hlt (cap:=c)
    rw[Nat.add_zero] at g0
    have HS1:Hid (s++zs=⟨(zbl (l.take (0+1))).toArray⟩):=by
     rw[Hid,HS.out,HZS.out,HXZ.out.1,List.take_zero,List.nil_append,zfH];rfl
    clear ha hix
    go_wp2_with fail
    go_roundw
    case rel=>exact⟨s++zs,0+1,rfl,by first|rfl|go_num,hlt,by rw[HS1.out,zdh];exact HXZ.out.2,HS1.out,by first|trivial|rfl⟩
    case measure=>simp[intOf];omega
   ·
    have hp0:0<i:=by omega
    have HS1:Hid (s++⟨#[46]⟩++zs=⟨(zbl (l.take (i+1))).toArray⟩):=by
     have hne:l.take i≠[]:=fun e=>by
      have:=congrArg List.length e
      rw[List.length_take] at this
      have h2:=HN.out
      simp at this
      rcases this with h|h
      ·
       omega
      ·
       rw[h] at h2;simp at h2;omega
     have e46:(⟨#[46]⟩:ByteArray)=⟨[(46:UInt8)].toArray⟩:=rfl
     rw[Hid,HS.out,HZS.out,HXZ.out.1,zik z hne,e46,zfH,zfH]
     simp
    clear ha
    go_wp2_with fail
    go_roundw
    case rel=>exact⟨s++⟨#[46]⟩++zs,i+1,rfl,by go_num,hlt,by rw[HS1.out,zdh];exact HXZ.out.2,HS1.out,by first|trivial|rfl⟩
    case measure=>simp[intOf];omega
  ·
   obtain rfl:i=n:=by omega
   go_wp2_with fail
   go_ret
   exact⟨by rw[HS.out,HN.out,List.take_length];rfl,Below.refl _ _⟩
end
section
open Go.RowKit
def zbm (s:List Mes)(root:Int):Nat:=if zaC s=false then 9 else if root<0∨(s.length:Int)≤root then 2 else 0
theorem zoh {w:World}{sv:Value}{s:List Mes}(hS:zaj w sv s)(root:Int) :
  Calls Tryz.prog 82 #[sv,.int .i64 root] w fun e w'=>e= .returned (.int .u8 (zbm s root:Nat))∧Below w.heap.size w w':=by
 have HR:=hid (zct hS)
 obtain⟨hn,a,c,rfl,-⟩:=hS.open
 obtain⟨n,HN⟩:∃ n,Hid (n=s.length):=⟨_,rfl⟩
 rw[←HN.out] at hn HR ⊢
 obtain⟨y,HY⟩:∃ y,Hid (y=zaC s):=⟨_,rfl⟩
 rw[←HY.out] at HR
 obtain⟨z,HZ⟩:∃ z,Hid (z=zbm s root):=⟨_,rfl⟩
 rw[←HZ.out]
 clear hS
 go_enter Tryz.func82,Tryz.ntmps82
 go_wp2_with fail
 refine HR.out.mono ?_
 rintro e w1 ⟨rfl,hb⟩
 have HB:=hid hb
 clear hb
 cases y with
 | false =>
  have HE:Hid (z=9):=by rw[Hid,HZ.out,zbm,if_pos HY.out.symm]
  go_wp2_with fail
  go_ret
  exact⟨by rw[HE.out];first|done|rfl,HB.out⟩
 | true =>
  by_cases h0:root<0
  ·
   have HE:Hid (z=2):=by rw[Hid,HZ.out,zbm,if_neg (by rw[←HY.out];decide),if_pos (.inl h0)]
   go_wp2_with fail
   go_ret
   exact⟨by rw[HE.out];first|done|rfl,HB.out⟩
  ·
   by_cases h1:(n:Int)≤root
   ·
    have HE:Hid (z=2):=by rw[Hid,HZ.out,zbm,if_neg (by rw[←HY.out];decide),if_pos (.inr (by rw[←HN.out];exact h1))]
    go_wp2_with fail
    go_ret
    exact⟨by rw[HE.out];first|done|rfl,HB.out⟩
   ·
    have HE:Hid (z=0):=by rw[Hid,HZ.out,zbm,if_neg (by rw[←HY.out];decide),if_neg (by rw[←HN.out];omega)]
    go_wp2_with fail
    go_ret
    exact⟨by rw[HE.out];first|done|rfl,HB.out⟩
end
section
open Go.RowKit
theorem zhM (s:List Mes)(root:Int):zbm s root=9∨zbm s root=2∨zbm s root=0∧zaC s=true∧0≤root∧root<s.length:=by
 unfold zbm
 split
 ·
  exact .inl rfl
 ·
  rename_i h
  split
  ·
   exact .inr (.inl rfl)
  ·
   exact .inr (.inr ⟨rfl,by simpa using h,by omega,by omega⟩)
theorem zfk {α:Type}(l:List α)(k:Nat)(d:α)(h:k<l.length):l.getD k d∈l:=by
 rw[List.getD_eq_getElem?_getD,List.getElem?_eq_getElem h]
 exact List.getElem_mem h
end
section
open Go.RowKit
theorem zdx {n:Nat}:∀ (fs bf:List Fld) (k:Nat),zao n bf fs k=none→(∀ f∈fs,zbx bf f.number=false∧za7 bf f.name=false)∧fs.Pairwise (fun a b=>a.number≠b.number∧a.name≠b.name)
 | [],_,_,_=>by simp
 | g::r,bf,k,h=>by
  rw[zao] at h
  by_cases h0:zax n (za7 bf g.name) (zbx bf g.number) g=0
  ·
   rw[if_pos h0] at h
   obtain⟨h1,h2⟩:=zdx r _ _ h
   obtain⟨-,h3,-,h4⟩:=zbL h0
   have hg:∀ f∈r,(zbx bf f.number=false∧za7 bf f.name=false)∧g.number≠f.number∧g.name≠f.name:=by
    intro f hf
    obtain⟨h5,h6⟩:=h1 f hf
    unfold zbx at h5 ⊢
    unfold za7 at h6 ⊢
    rw[List.any_append,Bool.or_eq_false_iff] at h5 h6
    refine⟨⟨h5.1,h6.1⟩,?_,?_⟩
    ·
     simpa using h5.2
    ·
     simpa using h6.2
   refine⟨fun f hf=>?_,?_⟩
   ·
    rcases List.mem_cons.1 hf with rfl|hf
    ·
     exact⟨h4,h3⟩
    ·
     exact (hg f hf).1
   ·
    rw[List.pairwise_cons]
    exact⟨fun f hf=>(hg f hf).2,h2⟩
  ·
   rw[if_neg h0] at h;cases h
theorem zkf {s:List Mes}(h:zaC s=true)(m:Mes)(hm:m∈s):m.fields.Pairwise (fun a b=>a.number≠b.number∧a.name≠b.name):=by
 have h0:(zbj s).2.2=0:=of_decide_eq_true h
 unfold zbj at h0
 by_cases h1:s.length=0∨100<s.length
 ·
  rw[if_pos h1] at h0;simp at h0
 rw[if_neg h1] at h0
 obtain⟨h2,-,-⟩:=zck s [] 0 h0 _ hm
 exact (zdx _ _ _ h2).2
def zbh (s:List Mes)(root:Int)(n:Int):Option Fld:=(s.getD root.toNat .zero).fields.find? fun f=>decide (f.number=n)
def zaz (s:List Mes):Int→List Int→Option (List (List UInt8))
 | _,[]=>some []
 | root,n::r=>match zbh s root n with
  | none=>none
  | some f=>if r≠[]∧(f.rep=true∨f.kind≠17) then none else (zaz s f.of r).map (f.name.data.toList :: ·)
end
section
open Go.RowKit
def zc4 (k:Int × Int):Value:=.agg #[.int .i64 k.1,.int .i64 k.2]
theorem zmJ (w:World)(a b:Int × Int):(Op.equal 142 (zc4 a) (zc4 b)).run Tryz.prog w= .ok (decide (a=b)) w:=by
 obtain⟨a1,a2⟩:=a
 obtain⟨b1,b2⟩:=b
 have u3:=Tryz.underlying3
 have a3:=Tryz.isAgg3
 have z3:=Tryz.sizeOf3
 simp only[zc4,Op.equal,Op.maxDepth]
 rw[show (10000:Nat)=9999+1 from rfl,Op.equalIn]
 simp only[Sem.run_bind,run_underlying Tryz.underlying142,Result.andThen_ok]
 simp only[Std.Legacy.Range.forIn_eq_forIn_range',Std.Legacy.Range.size,Nat.sub_zero,Nat.add_sub_cancel,Nat.div_one,List.range'_succ,List.range'_zero,List.forIn_cons,List.forIn_nil]
 go_simp
 by_cases h1:a1=b1 <;> by_cases h2:a2=b2 <;> simp[h1,h2]
theorem zhq (w:World)(k:Int × Int):∀ (es:List ((Int × Int) × Value)) (i j:Nat),
  (Instr.findAsking 142 (zc4 k) (zcd zc4 es i) j).run Tryz.prog w= .ok (zbT k es j) w
 | [],_,_=>rfl
 | (k',v)::r,i,j=>by
  simp only[zcd,Instr.findAsking,Sem.run_bind,zmJ,Result.andThen,zbT]
  by_cases e:k=k'
  ·
   simp[e,Sem.run_pure]
  ·
   simp[e,zhq w k r (i+1) (j+1)]
theorem zmK (w:World)(e:Bool)(k:Int × Int):(Instr.checkKey e 10000 142 (zc4 k)).run Tryz.prog w= .ok () w:=by
 obtain⟨a1,a2⟩:=k
 kernel_rfl
theorem zoi:zit Tryz.prog 142 zc4 where
 check w e k:=zmK w e k
 find w k es i:=by
  have hk:=zhq w k es i 0
  cases es with
  | nil=>simp[Instr.findKey,zcd,Instr.findNow,zbT,run_underlying Tryz.underlying142,Result.andThen]
  | cons x r =>
   obtain⟨k',v⟩:=x
   have hn:∀ (kind:TypeDesc) (l:List MapEntry) (j:Nat),Instr.findNow kind (zc4 k) (⟨zc4 k',v,i⟩::l) j=none:=by
    intro kind l j
    have:Instr.sameNow kind (zc4 k) (zc4 k')=none:=by cases kind <;> rfl
    simp only[Instr.findNow,this]
   rw[zcd] at hk ⊢
   simp only[Instr.findKey,Sem.run_bind,run_underlying Tryz.underlying142,Result.andThen,hn]
   exact hk
end
end Go.Proofs.YtdpnmdkbdibkpaaGreatDoor
