/- darningref14.Same, SameValue of one meaning twice: true. No condition. -/
import Derived.Test.YtdpnmdkbdibkpaaGreatDoorZ07
import Derived.Test.YtdpnmdkbdibkpaaGreatDoorZ12
import Derived.Test.YtdpnmdkbdibkpaaGreatDoorZ36
import Derived.StillTailTactics
import Derived.Deep.CutBlock
import Derived.Deep.CutRange
namespace Go.Proofs.YtdpnmdkbdibkpaaGreatDoor
set_option maxRecDepth 100000
set_option maxHeartbeats 16000000
section
open Go.RowKit
theorem zio (w:World):(sizeOf 38).run Tryz.prog w= .ok 2 w:=by kernel_rfl
theorem zfL (w:World):(sizeOf 42).run Tryz.prog w= .ok 4 w:=by kernel_rfl
def zow (d:Nat):Prop:=∀ (w:World) (v u:Value) (x:M d),zac d w v x→zac d w u x →
 Calls Tryz.prog 17 #[v,u] w fun e w'=>e= .returned (.bool true)∧Below w.heap.size w w'
theorem zaL {d:Nat}(ih:zow d){w:World}{v u:Value}{x:Val (M d)}(h:zat (zac d) w v x)(hu:zat (zac d) w u x) :
  Calls Tryz.prog 16 #[v,u] w fun e w'=>e= .returned (.bool true)∧Below w.heap.size w w':=by
 obtain⟨wv,tv,sv,rfl,hnum,hW,hT,hS⟩:=h
 obtain⟨wv2,tv2,sv2,rfl,-,hW2,hT2,hS2⟩:=hu
 obtain⟨hwl,wa,wc,rfl,-,hwa⟩:=hW.open
 obtain⟨htl,ta,tc,rfl,-,hta⟩:=hT.open
 obtain⟨hsl,sa,sc,rfl,-,hsa⟩:=hS.open
 obtain⟨-,wa2,wc2,rfl,-,hwa2⟩:=hW2.open
 obtain⟨-,ta2,tc2,rfl,-,hta2⟩:=hT2.open
 obtain⟨-,sa2,sc2,rfl,-,hsa2⟩:=hS2.open
 obtain⟨wn,HWN⟩:∃ n,Hid (n=x.words.length):=⟨_,rfl⟩
 obtain⟨tn,HTN⟩:∃ n,Hid (n=x.texts.length):=⟨_,rfl⟩
 obtain⟨sn,HSN⟩:∃ n,Hid (n=x.subs.length):=⟨_,rfl⟩
 rw[←HWN.out] at hwl ⊢
 rw[←HTN.out] at htl ⊢
 rw[←HSN.out] at hsl ⊢
 have HWA:=hid (And.intro hwa hwa2)
 have HTA:=hid (And.intro hta hta2)
 have HSA:=hid (And.intro hsa hsa2)
 have HIH:=hid ih
 generalize x.num=num at *
 obtain⟨A,HA⟩:∃ b,Hid (b=w.heap.size):=⟨_,rfl⟩
 obtain⟨B,HB⟩:∃ b,Hid (b=w.heap.size+1):=⟨_,rfl⟩
 obtain⟨W0,HW0⟩:∃ W0,Hid (W0=(w.alloc (.cells #[.int .i64 num,.slice wa wn wc,.slice ta tn tc,.slice sa sn sc] 42)).alloc (.cells #[.int .i64 num,.slice wa2 wn wc2,.slice ta2 tn tc2,.slice sa2 sn sc2] 42)):=⟨_,rfl⟩
 have hb0:Below w.heap.size w W0:=by rw[HW0.out];(with_reducible repeat first|exact Below.refl _ _|refine pzA ?_ _|refine pzB ?_ _|refine zab ?_ _|refine Below.drew ?_)
 have hx0:Blk W0 A [.int .i64 num,.slice wa wn wc,.slice ta tn tc,.slice sa sn sc] 42:=by rw[HW0.out,HA.out];exact (Blk.new w [.int .i64 num,.slice wa wn wc,.slice ta tn tc,.slice sa sn sc] _).alloc _
 have hy0:Blk W0 B [.int .i64 num,.slice wa2 wn wc2,.slice ta2 tn tc2,.slice sa2 sn sc2] 42:=by rw[HW0.out,HB.out];exact Blk.new' _ [.int .i64 num,.slice wa2 wn wc2,.slice ta2 tn tc2,.slice sa2 sn sc2] _ _ (by simp)
 have HB0:=hid hb0
 have HX0:=hid (And.intro hx0 hy0)
 have cx0:=hx0.cell 0 _ rfl
 have cx1:=hx0.cell 1 _ rfl
 have cx2:=hx0.cell 2 _ rfl
 have cx3:=hx0.cell 3 _ rfl
 have cy0:=hy0.cell 0 _ rfl
 have cy1:=hy0.cell 1 _ rfl
 have cy2:=hy0.cell 2 _ rfl
 have cy3:=hy0.cell 3 _ rfl
 have clx:=hx0.lt
 have cly:=hy0.lt
 clear hwa hta hsa hwa2 hta2 hsa2 ih hW hT hS hW2 hT2 hS2 hb0 hx0 hy0
 go_enter Tryz.func16,Tryz.ntmps16
 go_upto_region 1 with fail
 rw[←HW0.out,←HB.out,←HA.out]
 go_wp2_with fail
 go_loopw [5] (fun v5 wr=>∃ i:Nat,v5= .int .i64 (i:Int)∧i≤wn∧(∃ kw,wr=W0.drewN kw)) (fun v5 _=>wn - (intOf v5).toNat)
 case atStart=>exact⟨0,rfl,by omega,0,rfl⟩
 case round =>
  obtain⟨i,rfl,hi,kw,rfl⟩:=hrel
  by_cases hlt:i<wn
  ·
   have hti:x.words[i]?=some (x.words[i]'(by rw[←HWN.out];exact hlt)):=List.getElem?_eq_getElem _
   generalize x.words[i]'(by rw[←HWN.out];exact hlt)=t at hti
   obtain⟨-,g,o,ha,g0⟩:=HWA.out.1 i t hti
   obtain⟨-,g',o',ha',g0'⟩:=HWA.out.2 i t hti
   replace g0:=zaa HB0.out _ _ g0
   replace g0':=zaa HB0.out _ _ g0'
   have hix:=zag Tryz.underlying29 ze8 ha i hlt (cap:=wc)
   have hix':=zag Tryz.underlying29 ze8 ha' i hlt (cap:=wc2)
   clear ha ha' hti
   unfold zgK at g0 g0'
   go_wp2_with fail
   go_quiet (fail)
   go_wp2_with fail
   go_roundw
   case rel=>exact⟨i+1,by go_num,hlt,_,rfl⟩
   case measure=>simp[intOf];omega
  ·
   obtain rfl:i=wn:=by omega
   go_wp2_with fail
   go_loopw [6] (fun v6 wr=>∃ i:Nat,v6= .int .i64 (i:Int)∧i≤tn∧(∃ kw,wr=W0.drewN kw)) (fun v6 _=>tn - (intOf v6).toNat)
   case atStart=>exact⟨0,rfl,by omega,kw,rfl⟩
   case round =>
    obtain⟨j,rfl,hj,kx,rfl⟩:=hrel
    by_cases hlj:j<tn
    ·
     have hti:x.texts[j]?=some (x.texts[j]'(by rw[←HTN.out];exact hlj)):=List.getElem?_eq_getElem _
     generalize x.texts[j]'(by rw[←HTN.out];exact hlj)=t at hti
     obtain⟨-,g,o,ha,g0⟩:=HTA.out.1 j t hti
     obtain⟨-,g',o',ha',g0'⟩:=HTA.out.2 j t hti
     replace g0:=zaa HB0.out _ _ g0
     replace g0':=zaa HB0.out _ _ g0'
     have hix:=zag Tryz.underlying25 zcp ha j hlj (cap:=tc)
     have hix':=zag Tryz.underlying25 zcp ha' j hlj (cap:=tc2)
     have hb1:((⟨t.toArray⟩:ByteArray).toList == (⟨t.toArray⟩:ByteArray).toList)=true:=by rw[zkj];simp
     have hb2:((⟨t.toArray⟩:ByteArray).toList != (⟨t.toArray⟩:ByteArray).toList)=false:=by rw[bne,hb1];rfl
     clear ha ha' hti
     unfold zbA at g0 g0'
     generalize (⟨t.toArray⟩:ByteArray)=T at *
     go_wp2_with fail
     go_quiet (fail)
     go_wp2_with fail
     go_roundw
     case rel=>exact⟨j+1,by go_num,hlj,_,rfl⟩
     case measure=>simp[intOf];omega
    ·
     obtain rfl:j=tn:=by omega
     have HB1:Hid (Below w.heap.size w (W0.drewN kx)):=zab HB0.out kx
     have HX1:Hid (Blk (W0.drewN kx) A [.int .i64 num,.slice wa i wc,.slice ta j tc,.slice sa sn sc] 42∧Blk (W0.drewN kx) B [.int .i64 num,.slice wa2 i wc2,.slice ta2 j tc2,.slice sa2 sn sc2] 42):=HX0.out
     obtain⟨W1,HW1⟩:∃ W1,Hid (W1=W0.drewN kx):=⟨_,rfl⟩
     rw[←HW1.out] at HB1 HX1
     go_wp2_with fail
     rw[←HW1.out]
     clear cx0 cx1 cx2 cx3 cy0 cy1 cy2 cy3 clx cly
     go_loopw [7] (fun v7 wr=>∃ i:Nat,v7= .int .i64 (i:Int)∧i≤sn∧Hid (Below W1.heap.size W1 wr)) (fun v7 _=>sn - (intOf v7).toNat)
     case atStart=>exact⟨0,rfl,by omega,Below.refl _ _⟩
     case round =>
      obtain⟨k,rfl,hk,HG⟩:=hrel
      have hx:=HX1.out.1.below HG.out
      have hy:=HX1.out.2.below HG.out
      have cx3:=hx.cell 3 _ rfl
      have cy3:=hy.cell 3 _ rfl
      have clx:=hx.lt
      have cly:=hy.lt
      have hbw:Below w.heap.size w wr:=HB1.out.trans (HG.out.mono HB1.out.size)
      by_cases hlk:k<sn
      ·
       have hti:x.subs[k]?=some (x.subs[k]'(by rw[←HSN.out];exact hlk)):=List.getElem?_eq_getElem _
       generalize x.subs[k]'(by rw[←HSN.out];exact hlk)=y at hti
       obtain⟨g,o,u1,u2,ha,g0,g1,hY⟩:=HSA.out.1 k y hti
       obtain⟨g',o',u1',u2',ha',g0',g1',hY'⟩:=HSA.out.2 k y hti
       obtain⟨q1,s1,t1,q2,s2,t2,e3⟩:=formM hY
       cases e3
       obtain⟨q3,s3,t3,q4,s4,t4,e4⟩:=formM hY'
       cases e4
       have hkr:=zaa hbw
       replace g0:=hkr _ _ g0
       replace g1:=hkr _ _ g1
       replace g0':=hkr _ _ g0'
       replace g1':=hkr _ _ g1'
       have hgl:=World.block_lt_of_cell? wr _ g0
       have hgl':=World.block_lt_of_cell? wr _ g0'
       have hix:=zad Tryz.underlying40 zio ha k hlk (cap:=sc)
       have hix':=zad Tryz.underlying40 zio ha' k hlk (cap:=sc2)
       have HC:=hid (HIH.out wr.drew _ _ y ((hY.below hbw).keep fun _ _ h=>h) ((hY'.below hbw).keep fun _ _ h=>h))
       clear ha ha' hti hY hY' hkr hx hy hbw
       go_wp2_with fail
       go_still_tail 10,(by kernel_rfl)
       change wpList _ _ _ _ _ wr.drew
       go_wp2_with fail
       refine HC.out.mono ?_
       rintro e w5 ⟨rfl,hb5⟩
       have HG5:Hid (Below W1.heap.size W1 w5):=HG.out.trans (((Below.refl wr.heap.size wr).drew.trans hb5).mono HG.out.size)
       clear hb5
       go_wp2_with fail
       go_roundw
       case rel=>exact⟨k+1,by go_num,hlk,HG5.out⟩
       case measure=>simp[intOf];omega
      ·
       have HBE:=hid hbw
       clear hx hy hbw
       go_wp2_with fail
       go_ret
       exact⟨rfl,HBE.out⟩
theorem zbi:∀ (d:Nat),zow d:=by
 intro d
 induction d with
 | zero=>exact fun _ _ _ _ h _=>h.elim
 | succ d ih =>
  intro w v u x h hu
  obtain⟨vv,uv,rfl,hS,hT⟩:=h
  obtain⟨vv2,uv2,rfl,hS2,hT2⟩:=hu
  obtain⟨htl,ta,tc,rfl,-,hta⟩:=hT.open
  obtain⟨hsl,sa,sc,rfl,-,hsa⟩:=hS.open
  obtain⟨-,ta2,tc2,rfl,-,hta2⟩:=hT2.open
  obtain⟨-,sa2,sc2,rfl,-,hsa2⟩:=hS2.open
  obtain⟨tn,HTN⟩:∃ n,Hid (n=(M.unk x).length):=⟨_,rfl⟩
  obtain⟨sn,HSN⟩:∃ n,Hid (n=(M.vals x).length):=⟨_,rfl⟩
  rw[←HTN.out] at htl ⊢
  rw[←HSN.out] at hsl ⊢
  have HTA:=hid (And.intro hta hta2)
  have HSA:=hid (And.intro hsa hsa2)
  obtain⟨vs,HVS⟩:∃ vs,Hid (vs=M.vals x):=⟨_,rfl⟩
  obtain⟨ts,HTS⟩:∃ ts,Hid (ts=M.unk x):=⟨_,rfl⟩
  rw[←HVS.out] at HSN HSA
  rw[←HTS.out] at HTN HTA
  have HIH:=hid ih
  obtain⟨A,HA⟩:∃ b,Hid (b=w.heap.size):=⟨_,rfl⟩
  obtain⟨B,HB⟩:∃ b,Hid (b=w.heap.size+1):=⟨_,rfl⟩
  obtain⟨W0,HW0⟩:∃ W0,Hid (W0=(w.alloc (.cells #[.slice sa sn sc,.slice ta tn tc] 38)).alloc (.cells #[.slice sa2 sn sc2,.slice ta2 tn tc2] 38)):=⟨_,rfl⟩
  have hb0:Below w.heap.size w W0:=by rw[HW0.out];(with_reducible repeat first|exact Below.refl _ _|refine pzA ?_ _|refine pzB ?_ _|refine zab ?_ _|refine Below.drew ?_)
  have hx0:Blk W0 A [.slice sa sn sc,.slice ta tn tc] 38:=by rw[HW0.out,HA.out];exact (Blk.new w [.slice sa sn sc,.slice ta tn tc] _).alloc _
  have hy0:Blk W0 B [.slice sa2 sn sc2,.slice ta2 tn tc2] 38:=by rw[HW0.out,HB.out];exact Blk.new' _ [.slice sa2 sn sc2,.slice ta2 tn tc2] _ _ (by simp)
  have HB0:=hid hb0
  have HX0:=hid (And.intro hx0 hy0)
  have cx0:=hx0.cell 0 _ rfl
  have cx1:=hx0.cell 1 _ rfl
  have cy0:=hy0.cell 0 _ rfl
  have cy1:=hy0.cell 1 _ rfl
  have clx:=hx0.lt
  have cly:=hy0.lt
  clear hta hsa hta2 hsa2 ih hT hS hT2 hS2 hb0 hx0 hy0 HVS HTS
  clear x
  go_enter Tryz.func17,Tryz.ntmps17
  go_upto_region 1 with fail
  rw[←HW0.out,←HB.out,←HA.out]
  go_wp2_with fail
  go_loopw [5] (fun v5 wr=>∃ i:Nat,v5= .int .i64 (i:Int)∧i≤sn∧Hid (Below W0.heap.size W0 wr)) (fun v5 _=>sn - (intOf v5).toNat)
  case atStart=>exact⟨0,rfl,by omega,Below.refl _ _⟩
  case round =>
   obtain⟨k,rfl,hk,HG⟩:=hrel
   have hx:=HX0.out.1.below HG.out
   have hy:=HX0.out.2.below HG.out
   have cx0:=hx.cell 0 _ rfl
   have cy0:=hy.cell 0 _ rfl
   have cx1:=hx.cell 1 _ rfl
   have cy1:=hy.cell 1 _ rfl
   have clx:=hx.lt
   have cly:=hy.lt
   have hbw:Below w.heap.size w wr:=HB0.out.trans (HG.out.mono HB0.out.size)
   by_cases hlk:k<sn
   ·
    have hti:vs[k]?=some (vs[k]'(by rw[←HSN.out];exact hlk)):=List.getElem?_eq_getElem _
    generalize vs[k]'(by rw[←HSN.out];exact hlk)=y at hti
    obtain⟨g,o,u1,u2,u3,ha,g0,g1,g2,g3,hY⟩:=HSA.out.1 k y hti
    obtain⟨g',o',u1',u2',u3',ha',g0',g1',g2',g3',hY'⟩:=HSA.out.2 k y hti
    obtain⟨p1,i1,j1,p2,i2,j2,p3,i3,j3,rfl,rfl,rfl⟩:=formV hY
    obtain⟨p4,i4,j4,p5,i5,j5,p6,i6,j6,rfl,rfl,rfl⟩:=formV hY'
    have hkr:=zaa hbw
    replace g0:=hkr _ _ g0
    replace g1:=hkr _ _ g1
    replace g2:=hkr _ _ g2
    replace g3:=hkr _ _ g3
    replace g0':=hkr _ _ g0'
    replace g1':=hkr _ _ g1'
    replace g2':=hkr _ _ g2'
    replace g3':=hkr _ _ g3'
    have hgl:=World.block_lt_of_cell? wr _ g0
    have hgl':=World.block_lt_of_cell? wr _ g0'
    have hix:=zad Tryz.underlying36 zfL ha k hlk (cap:=sc)
    have hix':=zad Tryz.underlying36 zfL ha' k hlk (cap:=sc2)
    have HC:=hid (zaL HIH.out (VMsg.keep (w':=wr.drew) (VMsg.below hY hbw) fun _ _ h=>h) (VMsg.keep (w':=wr.drew) (VMsg.below hY' hbw) fun _ _ h=>h))
    generalize y.num=num at *
    clear ha ha' hti hY hY' hkr hx hy hbw
    go_wp2_with fail
    go_still_tail 10,(by kernel_rfl)
    change wpList _ _ _ _ _ wr.drew
    go_wp2_with fail
    refine HC.out.mono ?_
    rintro e w5 ⟨rfl,hb5⟩
    have HG5:Hid (Below W0.heap.size W0 w5):=HG.out.trans (((Below.refl wr.heap.size wr).drew.trans hb5).mono HG.out.size)
    clear hb5
    go_wp2_with fail
    go_roundw
    case rel=>exact⟨k+1,by go_num,hlk,HG5.out⟩
    case measure=>simp[intOf];omega
   ·
    obtain rfl:k=sn:=by omega
    have HX1:=hid (And.intro hx hy)
    have HB1:=hid hbw
    obtain⟨W1,rfl⟩:∃ W,W=wr:=⟨_,rfl⟩
    clear hx hy hbw
    go_wp2_with fail
    go_loopw [6] (fun v6 wr=>∃ i:Nat,v6= .int .i64 (i:Int)∧i≤tn∧(∃ kw,wr=W1.drewN kw)) (fun v6 _=>tn - (intOf v6).toNat)
    case atStart=>exact⟨0,rfl,by omega,0,rfl⟩
    case round =>
     obtain⟨j,rfl,hj,kx,rfl⟩:=hrel
     by_cases hlj:j<tn
     ·
      have hti:ts[j]?=some (ts[j]'(by rw[←HTN.out];exact hlj)):=List.getElem?_eq_getElem _
      generalize ts[j]'(by rw[←HTN.out];exact hlj)=t at hti
      obtain⟨-,g,o,ha,g0⟩:=HTA.out.1 j t hti
      obtain⟨-,g',o',ha',g0'⟩:=HTA.out.2 j t hti
      replace g0:=zaa HB1.out _ _ g0
      replace g0':=zaa HB1.out _ _ g0'
      have hix:=zag Tryz.underlying25 zcp ha j hlj (cap:=tc)
      have hix':=zag Tryz.underlying25 zcp ha' j hlj (cap:=tc2)
      have hb1:((⟨t.toArray⟩:ByteArray).toList == (⟨t.toArray⟩:ByteArray).toList)=true:=by rw[zkj];simp
      have hb2:((⟨t.toArray⟩:ByteArray).toList != (⟨t.toArray⟩:ByteArray).toList)=false:=by rw[bne,hb1];rfl
      clear ha ha' hti
      unfold zbA at g0 g0'
      generalize (⟨t.toArray⟩:ByteArray)=T at *
      go_wp2_with fail
      go_quiet (fail)
      go_wp2_with fail
      go_roundw
      case rel=>exact⟨j+1,by go_num,hlj,_,rfl⟩
      case measure=>simp[intOf];omega
     ·
      have HBE:=hid (zab HB1.out kx)
      go_wp2_with fail
      go_ret
      exact⟨rfl,HBE.out⟩
end
end Go.Proofs.YtdpnmdkbdibkpaaGreatDoor
