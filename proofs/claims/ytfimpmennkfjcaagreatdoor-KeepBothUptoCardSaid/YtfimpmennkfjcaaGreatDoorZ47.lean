/- darningref14.Same, SameValue of one meaning twice: true. No condition. darningref15.Plain: a meaning without unknown records (plainM). Meanings of at most 2^40 things. -/
import Derived.Test.YtfimpmennkfjcaaGreatDoorZ08
import Derived.Test.YtfimpmennkfjcaaGreatDoorZ15
import Derived.Test.YtfimpmennkfjcaaGreatDoorZ16
import Derived.Test.YtfimpmennkfjcaaGreatDoorZ21
import Derived.Test.YtfimpmennkfjcaaGreatDoorZ41
import Derived.Test.YtfimpmennkfjcaaGreatDoorZ46
import Derived.StillTailTactics
import Derived.Deep.CutBlock
import Derived.Deep.CutRange
import Derived.Deep.RegionLaw
namespace Go.Proofs.YtfimpmennkfjcaaGreatDoor
open Go.RowKit
theorem size_rmsg' (w:World):(sizeOf 45).run Tryz.prog w = .ok 2 w:=by kernel_rfl
theorem size_rval' (w:World):(sizeOf 91).run Tryz.prog w = .ok 4 w:=by kernel_rfl
def RSameOk (d:Nat):Prop:=∀ (w:World) (v u:Value) (x:M d),MsgAt d w v x → MsgAt d w u x →
 Calls Tryz.prog 20 #[v,u] w fun e w' => e = .returned (.bool true) ∧ Below w.heap.size w w'
set_option maxRecDepth 100000 in
set_option maxHeartbeats 4000000 in
theorem ref14_SameValue_of {d:Nat} (ih:RSameOk d) {w:World} {v u:Value} {x:Val (M d)} (h:ValAt (MsgAt d) w v x) (hu:ValAt (MsgAt d) w u x) :
  Calls Tryz.prog 46 #[v,u] w fun e w' => e = .returned (.bool true) ∧ Below w.heap.size w w':=by
 obtain ⟨wv,tv,sv,rfl,hnum,hW,hT,hS⟩:=h
 obtain ⟨wv2,tv2,sv2,rfl,-,hW2,hT2,hS2⟩:=hu
 obtain ⟨hwl,wa,wc,rfl,-,hwa⟩:=hW.open
 obtain ⟨htl,ta,tc,rfl,-,hta⟩:=hT.open
 obtain ⟨hsl,sa,sc,rfl,-,hsa⟩:=hS.open
 obtain ⟨-,wa2,wc2,rfl,-,hwa2⟩:=hW2.open
 obtain ⟨-,ta2,tc2,rfl,-,hta2⟩:=hT2.open
 obtain ⟨-,sa2,sc2,rfl,-,hsa2⟩:=hS2.open
 obtain ⟨wn,HWN⟩:∃ n,Hid (n = x.words.length):=⟨_,rfl⟩
 obtain ⟨tn,HTN⟩:∃ n,Hid (n = x.texts.length):=⟨_,rfl⟩
 obtain ⟨sn,HSN⟩:∃ n,Hid (n = x.subs.length):=⟨_,rfl⟩
 rw [← HWN.out] at hwl ⊢
 rw [← HTN.out] at htl ⊢
 rw [← HSN.out] at hsl ⊢
 have HWA:=hid (And.intro hwa hwa2)
 have HTA:=hid (And.intro hta hta2)
 have HSA:=hid (And.intro hsa hsa2)
 have HIH:=hid ih
 generalize x.num = num at *
 obtain ⟨A,HA⟩:∃ b,Hid (b = w.heap.size):=⟨_,rfl⟩
 obtain ⟨B,HB⟩:∃ b,Hid (b = w.heap.size + 1):=⟨_,rfl⟩
 obtain ⟨W0,HW0⟩:∃ W0,Hid (W0 = (w.alloc (.cells #[.int .i64 num,.slice wa wn wc,.slice ta tn tc,.slice sa sn sc] 91)).alloc (.cells #[.int .i64 num,.slice wa2 wn wc2,.slice ta2 tn tc2,.slice sa2 sn sc2] 91)):=⟨_,rfl⟩
 have hb0:Below w.heap.size w W0:=by rw [HW0.out];(repeat (first | with_reducible exact Below.refl _ _ | with_reducible refine Below.setCell ?_ (by first | omega | (simp;omega) | (simp;done)) _ | with_reducible refine Below.alloc ?_ (by first | omega | (simp;omega) | (simp;done)) _ | with_reducible refine below_drewN ?_ _ | with_reducible refine Below.drew ?_))
 have hx0:Blk W0 A [.int .i64 num,.slice wa wn wc,.slice ta tn tc,.slice sa sn sc] 91:=by rw [HW0.out,HA.out];exact (Blk.new w [.int .i64 num,.slice wa wn wc,.slice ta tn tc,.slice sa sn sc] _).alloc _
 have hy0:Blk W0 B [.int .i64 num,.slice wa2 wn wc2,.slice ta2 tn tc2,.slice sa2 sn sc2] 91:=by rw [HW0.out,HB.out];exact Blk.new' _ [.int .i64 num,.slice wa2 wn wc2,.slice ta2 tn tc2,.slice sa2 sn sc2] _ _ (by simp)
 have HB0:=hid hb0
 have HX0:=hid (And.intro hx0 hy0)
 have cx0:=hx0.cell 0 _ rfl
 have cx1:=hx0.cell 1 _ rfl
 have cx2:=hx0.cell 2 _ rfl
 have cx3:=hx0.cell 3 _ rfl
 have cy0:=hy0.cell 0 _ rfl
 have cy1:=hy0.cell 1 _ rfl
 have cy2:=hy0.cell 2 _ rfl
 have cy3:=hy0.cell 3 _ rfl
 have clx:=hx0.lt
 have cly:=hy0.lt
 clear hwa hta hsa hwa2 hta2 hsa2 ih hW hT hS hW2 hT2 hS2 hb0 hx0 hy0
 go_enter Tryz.func46,Tryz.ntmps46
 go_upto_region 1 with fail
 rw [← HW0.out,← HB.out,← HA.out]
 go_wp2_with fail
 go_loopw [5] (fun v5 wr => ∃ i:Nat,v5 = .int .i64 (i:Int) ∧ i ≤ wn ∧ (∃ kw,wr = W0.drewN kw)) (fun v5 _ => wn - (intOf v5).toNat)
 case atStart => exact ⟨0,rfl,by omega,0,rfl⟩
 case round =>
  obtain ⟨i,rfl,hi,kw,rfl⟩:=hrel
  by_cases hlt:i < wn
  ·
   have hti:x.words[i]? = some (x.words[i]'(by rw [← HWN.out];exact hlt)):=List.getElem?_eq_getElem _
   generalize x.words[i]'(by rw [← HWN.out];exact hlt) = t at hti
   obtain ⟨-,g,o,ha,g0⟩:=HWA.out.1 i t hti
   obtain ⟨-,g',o',ha',g0'⟩:=HWA.out.2 i t hti
   replace g0:=below_keeps HB0.out _ _ g0
   replace g0':=below_keeps HB0.out _ _ g0'
   have hix:=index_run1 Tryz.underlying88 size_u64 ha i hlt (cap:=wc)
   have hix':=index_run1 Tryz.underlying88 size_u64 ha' i hlt (cap:=wc2)
   clear ha ha' hti
   unfold wordV at g0 g0'
   go_wp2_with fail
   go_quiet (fail)
   go_wp2_with fail
   go_roundw
   case rel => exact ⟨i + 1,by go_num,hlt,_,rfl⟩
   case measure => simp [intOf];omega
  ·
   obtain rfl:i = wn:=by omega
   go_wp2_with fail
   go_loopw [6] (fun v6 wr => ∃ i:Nat,v6 = .int .i64 (i:Int) ∧ i ≤ tn ∧ (∃ kw,wr = W0.drewN kw)) (fun v6 _ => tn - (intOf v6).toNat)
   case atStart => exact ⟨0,rfl,by omega,kw,rfl⟩
   case round =>
    obtain ⟨j,rfl,hj,kx,rfl⟩:=hrel
    by_cases hlj:j < tn
    ·
     have hti:x.texts[j]? = some (x.texts[j]'(by rw [← HTN.out];exact hlj)):=List.getElem?_eq_getElem _
     generalize x.texts[j]'(by rw [← HTN.out];exact hlj) = t at hti
     obtain ⟨-,g,o,ha,g0⟩:=HTA.out.1 j t hti
     obtain ⟨-,g',o',ha',g0'⟩:=HTA.out.2 j t hti
     replace g0:=below_keeps HB0.out _ _ g0
     replace g0':=below_keeps HB0.out _ _ g0'
     have hix:=index_run1 Tryz.underlying25 size_str ha j hlj (cap:=tc)
     have hix':=index_run1 Tryz.underlying25 size_str ha' j hlj (cap:=tc2)
     have hb1:((⟨t.toArray⟩:ByteArray).toList == (⟨t.toArray⟩:ByteArray).toList) = true:=by rw [bytes_beq];simp
     have hb2:((⟨t.toArray⟩:ByteArray).toList != (⟨t.toArray⟩:ByteArray).toList) = false:=by rw [bne,hb1];rfl
     clear ha ha' hti
     unfold strV at g0 g0'
     generalize (⟨t.toArray⟩:ByteArray) = T at *
     go_wp2_with fail
     go_quiet (fail)
     go_wp2_with fail
     go_roundw
     case rel => exact ⟨j + 1,by go_num,hlj,_,rfl⟩
     case measure => simp [intOf];omega
    ·
     obtain rfl:j = tn:=by omega
     have HB1:Hid (Below w.heap.size w (W0.drewN kx)):=below_drewN HB0.out kx
     have HX1:Hid (Blk (W0.drewN kx) A [.int .i64 num,.slice wa i wc,.slice ta j tc,.slice sa sn sc] 91 ∧ Blk (W0.drewN kx) B [.int .i64 num,.slice wa2 i wc2,.slice ta2 j tc2,.slice sa2 sn sc2] 91):=HX0.out
     obtain ⟨W1,HW1⟩:∃ W1,Hid (W1 = W0.drewN kx):=⟨_,rfl⟩
     rw [← HW1.out] at HB1 HX1
     go_wp2_with fail
     rw [← HW1.out]
     clear cx0 cx1 cx2 cx3 cy0 cy1 cy2 cy3 clx cly
     go_loopw [7] (fun v7 wr => ∃ i:Nat,v7 = .int .i64 (i:Int) ∧ i ≤ sn ∧ Hid (Below W1.heap.size W1 wr)) (fun v7 _ => sn - (intOf v7).toNat)
     case atStart => exact ⟨0,rfl,by omega,Below.refl _ _⟩
     case round =>
      obtain ⟨k,rfl,hk,HG⟩:=hrel
      have hx:=HX1.out.1.below HG.out
      have hy:=HX1.out.2.below HG.out
      have cx3:=hx.cell 3 _ rfl
      have cy3:=hy.cell 3 _ rfl
      have clx:=hx.lt
      have cly:=hy.lt
      have hbw:Below w.heap.size w wr:=HB1.out.trans (HG.out.mono HB1.out.size)
      by_cases hlk:k < sn
      ·
       have hti:x.subs[k]? = some (x.subs[k]'(by rw [← HSN.out];exact hlk)):=List.getElem?_eq_getElem _
       generalize x.subs[k]'(by rw [← HSN.out];exact hlk) = y at hti
       obtain ⟨g,o,u1,u2,ha,g0,g1,hY⟩:=HSA.out.1 k y hti
       obtain ⟨g',o',u1',u2',ha',g0',g1',hY'⟩:=HSA.out.2 k y hti
       obtain ⟨q1,s1,t1,q2,s2,t2,e3⟩:=formM hY
       cases e3
       obtain ⟨q3,s3,t3,q4,s4,t4,e4⟩:=formM hY'
       cases e4
       have hkr:=below_keeps hbw
       replace g0:=hkr _ _ g0
       replace g1:=hkr _ _ g1
       replace g0':=hkr _ _ g0'
       replace g1':=hkr _ _ g1'
       have hgl:=World.block_lt_of_cell? wr _ g0
       have hgl':=World.block_lt_of_cell? wr _ g0'
       have hix:=index_run Tryz.underlying89 size_rmsg' ha k hlk (cap:=sc)
       have hix':=index_run Tryz.underlying89 size_rmsg' ha' k hlk (cap:=sc2)
       have HC:=hid (HIH.out wr.drew _ _ y ((hY.below hbw).keep fun _ _ h => h) ((hY'.below hbw).keep fun _ _ h => h))
       clear ha ha' hti hY hY' hkr hx hy hbw
       go_wp2_with fail
       go_still_tail 10,(by kernel_rfl)
       change wpList _ _ _ _ _ wr.drew
       go_wp2_with fail
       refine HC.out.mono ?_
       rintro e w5 ⟨rfl,hb5⟩
       have HG5:Hid (Below W1.heap.size W1 w5):=HG.out.trans (((Below.refl wr.heap.size wr).drew.trans hb5).mono HG.out.size)
       clear hb5
       go_wp2_with fail
       go_roundw
       case rel => exact ⟨k + 1,by go_num,hlk,HG5.out⟩
       case measure => simp [intOf];omega
      ·
       have HBE:=hid hbw
       clear hx hy hbw
       go_wp2_with fail
       go_ret
       exact ⟨rfl,HBE.out⟩
set_option maxRecDepth 100000 in
set_option maxHeartbeats 4000000 in
theorem ref14_Same:∀ (d:Nat),RSameOk d:=by
 intro d
 induction d with
 | zero => exact fun _ _ _ _ h _ => h.elim
 | succ d ih =>
  intro w v u x h hu
  obtain ⟨vv,uv,rfl,hS,hT⟩:=h
  obtain ⟨vv2,uv2,rfl,hS2,hT2⟩:=hu
  obtain ⟨htl,ta,tc,rfl,-,hta⟩:=hT.open
  obtain ⟨hsl,sa,sc,rfl,-,hsa⟩:=hS.open
  obtain ⟨-,ta2,tc2,rfl,-,hta2⟩:=hT2.open
  obtain ⟨-,sa2,sc2,rfl,-,hsa2⟩:=hS2.open
  obtain ⟨tn,HTN⟩:∃ n,Hid (n = (M.unk x).length):=⟨_,rfl⟩
  obtain ⟨sn,HSN⟩:∃ n,Hid (n = (M.vals x).length):=⟨_,rfl⟩
  rw [← HTN.out] at htl ⊢
  rw [← HSN.out] at hsl ⊢
  have HTA:=hid (And.intro hta hta2)
  have HSA:=hid (And.intro hsa hsa2)
  obtain ⟨vs,HVS⟩:∃ vs,Hid (vs = M.vals x):=⟨_,rfl⟩
  obtain ⟨ts,HTS⟩:∃ ts,Hid (ts = M.unk x):=⟨_,rfl⟩
  rw [← HVS.out] at HSN HSA
  rw [← HTS.out] at HTN HTA
  have HIH:=hid ih
  obtain ⟨A,HA⟩:∃ b,Hid (b = w.heap.size):=⟨_,rfl⟩
  obtain ⟨B,HB⟩:∃ b,Hid (b = w.heap.size + 1):=⟨_,rfl⟩
  obtain ⟨W0,HW0⟩:∃ W0,Hid (W0 = (w.alloc (.cells #[.slice sa sn sc,.slice ta tn tc] 45)).alloc (.cells #[.slice sa2 sn sc2,.slice ta2 tn tc2] 45)):=⟨_,rfl⟩
  have hb0:Below w.heap.size w W0:=by rw [HW0.out];(repeat (first | with_reducible exact Below.refl _ _ | with_reducible refine Below.setCell ?_ (by first | omega | (simp;omega) | (simp;done)) _ | with_reducible refine Below.alloc ?_ (by first | omega | (simp;omega) | (simp;done)) _ | with_reducible refine below_drewN ?_ _ | with_reducible refine Below.drew ?_))
  have hx0:Blk W0 A [.slice sa sn sc,.slice ta tn tc] 45:=by rw [HW0.out,HA.out];exact (Blk.new w [.slice sa sn sc,.slice ta tn tc] _).alloc _
  have hy0:Blk W0 B [.slice sa2 sn sc2,.slice ta2 tn tc2] 45:=by rw [HW0.out,HB.out];exact Blk.new' _ [.slice sa2 sn sc2,.slice ta2 tn tc2] _ _ (by simp)
  have HB0:=hid hb0
  have HX0:=hid (And.intro hx0 hy0)
  have cx0:=hx0.cell 0 _ rfl
  have cx1:=hx0.cell 1 _ rfl
  have cy0:=hy0.cell 0 _ rfl
  have cy1:=hy0.cell 1 _ rfl
  have clx:=hx0.lt
  have cly:=hy0.lt
  clear hta hsa hta2 hsa2 ih hT hS hT2 hS2 hb0 hx0 hy0 HVS HTS
  clear x
  go_enter Tryz.func20,Tryz.ntmps20
  go_upto_region 1 with fail
  rw [← HW0.out,← HB.out,← HA.out]
  go_wp2_with fail
  go_loopw [5] (fun v5 wr => ∃ i:Nat,v5 = .int .i64 (i:Int) ∧ i ≤ sn ∧ Hid (Below W0.heap.size W0 wr)) (fun v5 _ => sn - (intOf v5).toNat)
  case atStart => exact ⟨0,rfl,by omega,Below.refl _ _⟩
  case round =>
   obtain ⟨k,rfl,hk,HG⟩:=hrel
   have hx:=HX0.out.1.below HG.out
   have hy:=HX0.out.2.below HG.out
   have cx0:=hx.cell 0 _ rfl
   have cy0:=hy.cell 0 _ rfl
   have cx1:=hx.cell 1 _ rfl
   have cy1:=hy.cell 1 _ rfl
   have clx:=hx.lt
   have cly:=hy.lt
   have hbw:Below w.heap.size w wr:=HB0.out.trans (HG.out.mono HB0.out.size)
   by_cases hlk:k < sn
   ·
    have hti:vs[k]? = some (vs[k]'(by rw [← HSN.out];exact hlk)):=List.getElem?_eq_getElem _
    generalize vs[k]'(by rw [← HSN.out];exact hlk) = y at hti
    obtain ⟨g,o,u1,u2,u3,ha,g0,g1,g2,g3,hY⟩:=HSA.out.1 k y hti
    obtain ⟨g',o',u1',u2',u3',ha',g0',g1',g2',g3',hY'⟩:=HSA.out.2 k y hti
    obtain ⟨p1,i1,j1,p2,i2,j2,p3,i3,j3,rfl,rfl,rfl⟩:=formV hY
    obtain ⟨p4,i4,j4,p5,i5,j5,p6,i6,j6,rfl,rfl,rfl⟩:=formV hY'
    have hkr:=below_keeps hbw
    replace g0:=hkr _ _ g0
    replace g1:=hkr _ _ g1
    replace g2:=hkr _ _ g2
    replace g3:=hkr _ _ g3
    replace g0':=hkr _ _ g0'
    replace g1':=hkr _ _ g1'
    replace g2':=hkr _ _ g2'
    replace g3':=hkr _ _ g3'
    have hgl:=World.block_lt_of_cell? wr _ g0
    have hgl':=World.block_lt_of_cell? wr _ g0'
    have hix:=index_run Tryz.underlying43 size_rval' ha k hlk (cap:=sc)
    have hix':=index_run Tryz.underlying43 size_rval' ha' k hlk (cap:=sc2)
    have HC:=hid (ref14_SameValue_of HIH.out (VMsg.keep (w':=wr.drew) (VMsg.below hY hbw) fun _ _ h => h) (VMsg.keep (w':=wr.drew) (VMsg.below hY' hbw) fun _ _ h => h))
    generalize y.num = num at *
    clear ha ha' hti hY hY' hkr hx hy hbw
    go_wp2_with fail
    go_still_tail 10,(by kernel_rfl)
    change wpList _ _ _ _ _ wr.drew
    go_wp2_with fail
    refine HC.out.mono ?_
    rintro e w5 ⟨rfl,hb5⟩
    have HG5:Hid (Below W0.heap.size W0 w5):=HG.out.trans (((Below.refl wr.heap.size wr).drew.trans hb5).mono HG.out.size)
    clear hb5
    go_wp2_with fail
    go_roundw
    case rel => exact ⟨k + 1,by go_num,hlk,HG5.out⟩
    case measure => simp [intOf];omega
   ·
    obtain rfl:k = sn:=by omega
    have HX1:=hid (And.intro hx hy)
    have HB1:=hid hbw
    obtain ⟨W1,rfl⟩:∃ W,W = wr:=⟨_,rfl⟩
    clear hx hy hbw
    go_wp2_with fail
    go_loopw [6] (fun v6 wr => ∃ i:Nat,v6 = .int .i64 (i:Int) ∧ i ≤ tn ∧ (∃ kw,wr = W1.drewN kw)) (fun v6 _ => tn - (intOf v6).toNat)
    case atStart => exact ⟨0,rfl,by omega,0,rfl⟩
    case round =>
     obtain ⟨j,rfl,hj,kx,rfl⟩:=hrel
     by_cases hlj:j < tn
     ·
      have hti:ts[j]? = some (ts[j]'(by rw [← HTN.out];exact hlj)):=List.getElem?_eq_getElem _
      generalize ts[j]'(by rw [← HTN.out];exact hlj) = t at hti
      obtain ⟨-,g,o,ha,g0⟩:=HTA.out.1 j t hti
      obtain ⟨-,g',o',ha',g0'⟩:=HTA.out.2 j t hti
      replace g0:=below_keeps HB1.out _ _ g0
      replace g0':=below_keeps HB1.out _ _ g0'
      have hix:=index_run1 Tryz.underlying25 size_str ha j hlj (cap:=tc)
      have hix':=index_run1 Tryz.underlying25 size_str ha' j hlj (cap:=tc2)
      have hb1:((⟨t.toArray⟩:ByteArray).toList == (⟨t.toArray⟩:ByteArray).toList) = true:=by rw [bytes_beq];simp
      have hb2:((⟨t.toArray⟩:ByteArray).toList != (⟨t.toArray⟩:ByteArray).toList) = false:=by rw [bne,hb1];rfl
      clear ha ha' hti
      unfold strV at g0 g0'
      generalize (⟨t.toArray⟩:ByteArray) = T at *
      go_wp2_with fail
      go_quiet (fail)
      go_wp2_with fail
      go_roundw
      case rel => exact ⟨j + 1,by go_num,hlj,_,rfl⟩
      case measure => simp [intOf];omega
     ·
      have HBE:=hid (below_drewN HB1.out kx)
      go_wp2_with fail
      go_ret
      exact ⟨rfl,HBE.out⟩
end Go.Proofs.YtfimpmennkfjcaaGreatDoor
namespace Go.Proofs.YtfimpmennkfjcaaGreatDoor
open Go.RowKit Go.Shelf
def RPlainOk (w0:World) (d:Nat):Prop:=∀ (w:World) (v:Value) (x:M d),Below w0.heap.size w0 w → MsgAt d w0 v x → mwt d x ≤ 1099511627776 →
 Calls Tryz.prog 29 #[v] w fun e w' => ∃ v',e = .returned v' ∧ Below w.heap.size w w' ∧ Apart w0.heap.size w.heap.size w' fun w2 => MsgAt d w2 v' (plainM d x)
def plainV (d:Nat) (v:Val (M d)):Val (M d):=⟨v.num,v.words,v.texts,v.subs.map (plainM d)⟩
set_option maxRecDepth 100000 in
set_option maxHeartbeats 16000000 in
theorem ref15_Plain_step {w0:World} (d:Nat) (hrec:RPlainOk w0 d):RPlainOk w0 (d + 1):=by
 intro w v x hw hx hwt
 have HWT:=hid hwt
 have HRE:=hid hrec
 obtain ⟨vv,uv,rfl,hV,hU⟩:=hx
 obtain ⟨-,va,vc,rfl,-,hva⟩:=hV.open
 obtain ⟨-,ua,uc,huv,-,-⟩:=hU.open
 obtain ⟨un,HUN⟩:∃ n,Hid (n = (M.unk x).length):=⟨_,rfl⟩
 obtain ⟨vn,HVN⟩:∃ n,Hid (n = (M.vals x).length):=⟨_,rfl⟩
 rw [← HUN.out] at huv
 subst huv
 rw [← HVN.out] at hV ⊢
 have hvn:vn ≤ 1099511627776:=by rw [HVN.out];exact (unk_len x hwt).2
 obtain ⟨Q,HQ⟩:∃ Q:Ending → World → Prop,Hid (Q = fun e w' => ∃ v',e = .returned v' ∧ Below w.heap.size w w' ∧ Apart w0.heap.size w.heap.size w' fun w2 => MsgAt (d + 1) w2 v' (plainM (d + 1) x)):=⟨_,rfl⟩
 rw [← HQ.out]
 obtain ⟨X,HX⟩:∃ X,Hid (X = w.heap.size):=⟨_,rfl⟩
 have HHW:=hid hw
 have HVA:=hid hva
 clear hw hva hV hU hrec hwt
 have h3:=news3 w [.slice va vn vc,.slice ua un uc] [.slice none 0 0,.slice none 0 0] [.slice none 0 0,.slice none 0 0] 45 45 45
 obtain ⟨W1,HW1⟩:∃ W1,Hid (W1 = ((w.alloc (.cells #[.slice va vn vc,.slice ua un uc] 45)).alloc (.cells #[.slice none 0 0,.slice none 0 0] 45)).alloc (.cells #[.slice none 0 0,.slice none 0 0] 45)):=⟨_,rfl⟩
 rw [← HW1.out,← HX.out] at h3
 obtain ⟨hx1,hr1,ho1,hz1,hb1⟩:=h3
 have HX1:=hid hx1
 have HR1:=hid hr1
 have HO1:Hid (OutB (ValP' d) 91 4 w0.heap.size 45 (X + 1 + 1) [] [(.slice none 0 0)] W1 W1 (.slice none 0 0) []):=OutB.start ho1
 have HB1:=hid hb1
 have HN0:Hid (w0.heap.size ≤ X):=by rw [HX.out];exact HHW.out.size
 have HBW:Hid (∀ wr,Below (X + 1 + 1) W1 wr → Below X w wr):=fun wr h => HB1.out.trans (h.mono (by omega))
 clear hx1 hr1 ho1 hz1 hb1
 have HFIN:Hid (∀ (W:World) (v':Value),OutB (ValP' d) 91 4 w0.heap.size 45 (X + 1 + 1) [] [(.slice none 0 0)] W1 W v' ((M.vals x).map (plainV d)) → Q (.returned (.agg #[v',(.slice none 0 0)])) ((W.setCell ⟨X + 1,0,none⟩ v').setCell ⟨X + 1,1,none⟩ (.slice none 0 0))):=by
  intro W v' hO
  have hB:Below X w ((W.setCell ⟨X + 1,0,none⟩ v').setCell ⟨X + 1,1,none⟩ (.slice none 0 0)):=((HBW.out W hO.below).setCell (by show X ≤ X + 1;omega) _).setCell (by show X ≤ X + 1;omega) _
  rw [HQ.out]
  refine ⟨_,rfl,by rw [← HX.out];exact hB,fun w2 hw2 => ?_⟩
  rw [← HX.out] at hw2
  have hag:∀ b,b < W.heap.size → (b < w0.heap.size ∨ X + 1 + 1 + 1 ≤ b) → w2.heap[b]? = W.heap[b]?:=by
   intro b hlt hc
   have hne:b ≠ X + 1:=by have:=HN0.out;omega
   refine (hw2 b (by simpa using hlt) (hc.imp id fun h => by omega)).trans ?_
   rw [Below.heap_setCell _ _ _ b hne,Below.heap_setCell _ _ _ b hne]
  exact ⟨v',(.slice none 0 0),rfl,hO.at (by rw [List.length_map,← HVN.out];omega) hag,strs_none w2⟩
 go_enter Tryz.func29,Tryz.ntmps29
 go_wp2_with fail
 rw [← HW1.out,← HX.out]
 go_loopw [4] (fun v4 wr => ∃ (i:Nat) (oa:Option Addr) (oc:Nat),v4 = .int .i64 (i:Int) ∧ i ≤ vn ∧ Hid (OutB (ValP' d) 91 4 w0.heap.size 45 (X + 1 + 1) [] [(.slice none 0 0)] W1 wr (.slice oa i oc) (((M.vals x).take i).map (plainV d)))) (fun v4 _ => vn - (intOf v4).toNat)
 case atStart => exact ⟨0,none,0,rfl,by omega,HO1.out⟩
 case round =>
  obtain ⟨i,oa,oc,rfl,hi,HJ⟩:=hrel
  have hX1:Blk wr X [.slice va vn vc,.slice ua un uc] 45:=(HJ.out.below.block X (by omega)).trans HX1.out
  have hXl:=hX1.lt
  have x0:=hX1.cell 0 _ rfl
  by_cases hlt:i < vn
  ·
   obtain ⟨v,hv⟩:∃ v,(M.vals x)[i]? = some v:=⟨_,List.getElem?_eq_getElem (by rw [← HVN.out];exact hlt)⟩
   have HBW0:=hid (HBW.out wr HJ.out.below)
   have HB0:=hid (HHW.out.trans ((HBW0.out.mono (Nat.le_of_eq HX.out.symm)).mono HHW.out.size))
   obtain ⟨b,o',v1,v2,v3,ha,g0,g1,g2,g3,hM⟩:=HVA.out i v hv
   obtain ⟨wv,tv,sv,hform,hnum,hWo,hTe,hSu⟩:=hM
   obtain ⟨-,a1,q1,rfl,-,-⟩:=hWo.open
   obtain ⟨-,a2,q2,rfl,-,-⟩:=hTe.open
   obtain ⟨hsl,a3,q3,rfl,-,hsa⟩:=hSu.open
   obtain ⟨rfl,rfl,rfl⟩:v1 = .slice a1 v.words.length q1 ∧ v2 = .slice a2 v.texts.length q2 ∧ v3 = .slice a3 v.subs.length q3:=by cases hform;exact ⟨rfl,rfl,rfl⟩
   clear hform
   obtain ⟨num,HNUM⟩:∃ n,Hid (n = v.num):=⟨_,rfl⟩
   obtain ⟨n1,HN1⟩:∃ n,Hid (n = v.words.length):=⟨_,rfl⟩
   obtain ⟨n2,HN2⟩:∃ n,Hid (n = v.texts.length):=⟨_,rfl⟩
   obtain ⟨n3,HN3⟩:∃ n,Hid (n = v.subs.length):=⟨_,rfl⟩
   rw [← HNUM.out] at g0 hnum
   rw [← HN1.out] at g1 hWo
   rw [← HN2.out] at g2 hTe
   rw [← HN3.out] at g3 hSu
   have hkr:=below_keeps HB0.out
   replace g0:=hkr _ _ g0
   replace g1:=hkr _ _ g1
   replace g2:=hkr _ _ g2
   replace g3:=hkr _ _ g3
   have hix:=index_run Tryz.underlying43 size_rval' ha i hlt (cap:=vc)
   have hbl:=World.block_lt_of_cell? wr _ g0
   have HVW:Hid (vwt (mwt d) v ≤ 1099511627776):=by
    have h1:=mem_sum_le (vwt (mwt d)) (M.vals x) v (List.mem_of_getElem? hv)
    have h2:=HWT.out
    have e:mwt (d + 1) x = 1 + twt (M.unk x) + ((M.vals x).map (vwt (mwt d))).sum:=rfl
    show _ ≤ _
    omega
   have HTK:Hid (((M.vals x).take (i + 1)).map (plainV d) = ((M.vals x).take i).map (plainV d) ++ [plainV d v]):=by rw [Hid,List.take_add_one,hv,List.map_append];rfl
   have HLEN:Hid ((((M.vals x).take i).map (plainV d)).length = i):=by rw [Hid,List.length_map,List.length_take,← HVN.out];omega
   have hn3:n3 ≤ 1099511627776:=by
    have h1:=sub_count v.subs d rfl
    have h2:=HVW.out
    have e:vwt (mwt d) v = 1 + v.words.length + twt v.texts + (v.subs.map (mwt d)).sum:=rfl
    rw [HN3.out];omega
   obtain ⟨B,HBB⟩:∃ B,Hid (B = wr.heap.size):=⟨_,rfl⟩
   obtain ⟨W6,HW6⟩:∃ W6,Hid (W6 = wr.alloc (.cells #[.int .i64 num,.slice a1 n1 q1,.slice a2 n2 q2,.slice a3 n3 q3] 91)):=⟨_,rfl⟩
   have hb6:Below wr.heap.size wr W6:=by rw [HW6.out];exact (Below.refl _ _).alloc (Nat.le_refl _) _
   have hz6:W6.heap.size = B + 1:=by rw [HW6.out,HBB.out];simp
   have hv6:Blk W6 B [.int .i64 num,.slice a1 n1 q1,.slice a2 n2 q2,.slice a3 n3 q3] 91:=by rw [HW6.out,HBB.out];exact Blk.new wr [.int .i64 num,.slice a1 n1 q1,.slice a2 n2 q2,.slice a3 n3 q3] _
   obtain ⟨W7,HW7⟩:∃ W7,Hid (W7 = W6.alloc (.cells #[.int .i64 num,.slice a1 n1 q1,.slice a2 n2 q2,.slice none 0 0] 91)):=⟨_,rfl⟩
   have hb7:Below W6.heap.size W6 W7:=by rw [HW7.out];exact (Below.refl _ _).alloc (Nat.le_refl _) _
   have hw7:Blk W7 (B + 1) ([.int .i64 num,.slice a1 n1 q1,.slice a2 n2 q2] ++ .slice none 0 0 :: []) 91:=by rw [HW7.out,← hz6];exact Blk.new W6 [.int .i64 num,.slice a1 n1 q1,.slice a2 n2 q2,.slice none 0 0] _
   have HV7:=hid (hv6.below hb7)
   have HB7:=hid (hb6.trans (hb7.mono hb6.size))
   have HO7:Hid (OutB (SubP d) 45 2 w0.heap.size 91 (B + 1) [.int .i64 num,.slice a1 n1 q1,.slice a2 n2 q2] [] W7 W7 (.slice none 0 0) []):=OutB.start hw7
   have d0:=hv6.cell 0 _ rfl
   have d1:=hv6.cell 1 _ rfl
   have d2:=hv6.cell 2 _ rfl
   have d3:=hv6.cell 3 _ rfl
   have dl:=hv6.lt
   have HWTS:=hid (And.intro hnum (And.intro hWo hTe))
   have HSA:=hid hsa
   have HVV:=hid hv
   clear hv hkr hb6 hv6 hb7 hw7 ha hnum hWo hTe hSu hsl hsa
   go_upto_region 6 with fail
   rw [← HW6.out,← HBB.out]
   clear g0 g1 g2 g3 hix hbl x0 hXl hX1
   go_upto_region 7 with fail
   rw [← HW7.out]
   clear d0 d1 d2 d3 dl
   go_upto_region 8 with fail
   obtain ⟨w5,hw5⟩:∃ u,u = wr:=⟨_,rfl⟩
   rw [← hw5] at HJ HB7 HBB HB0 HBW0
   clear hw5
   go_loopw [7] (fun v7 wr => ∃ (k:Nat) (sa:Option Addr) (sc:Nat),v7 = .int .i64 (k:Int) ∧ k ≤ n3 ∧ Hid (OutB (SubP d) 45 2 w0.heap.size 91 (B + 1) [.int .i64 num,.slice a1 n1 q1,.slice a2 n2 q2] [] W7 wr (.slice sa k sc) ((v.subs.take k).map (plainM d)))) (fun v7 _ => n3 - (intOf v7).toNat)
   case atStart => exact ⟨0,none,0,rfl,by omega,HO7.out⟩
   case round =>
    obtain ⟨k,sa,sc,rfl,hk,HI⟩:=hrel
    have hB57:Below w5.heap.size w5 wr:=HB7.out.trans (HI.out.below.mono (by rw [← HBB.out];omega))
    have HB5:=hid hB57
    have HB0r:=hid (HB0.out.trans (hB57.mono HB0.out.size))
    have hVB:Blk wr B [.int .i64 num,.slice a1 n1 q1,.slice a2 n2 q2,.slice a3 n3 q3] 91:=(HI.out.below.block B (by omega)).trans HV7.out
    have HVBr:=hid hVB
    have d3:=hVB.cell 3 _ rfl
    have dl:=hVB.lt
    have HI3:=HI.out.cell 3 _ rfl
    have hil:=HI.out.lt
    have hif:=HI.out.free 3
    by_cases hlk:k < n3
    ·
     obtain ⟨y,hy⟩:∃ y,v.subs[k]? = some y:=⟨_,List.getElem?_eq_getElem (by rw [← HN3.out];exact hlk)⟩
     obtain ⟨b,o,v1,v2,ha,g0,g1,hM⟩:=HSA.out k y hy
     have HMY:Hid (mwt d y ≤ 1099511627776):=by
      have h1:=mem_sum_le (mwt d) v.subs y (List.mem_of_getElem? hy)
      have h2:=HVW.out
      have e:vwt (mwt d) v = 1 + v.words.length + twt v.texts + (v.subs.map (mwt d)).sum:=rfl
      show _ ≤ _
      omega
     have HTKS:Hid ((v.subs.take (k + 1)).map (plainM d) = (v.subs.take k).map (plainM d) ++ [plainM d y]):=by rw [Hid,List.take_add_one,hy,List.map_append];rfl
     have HSL:Hid (((v.subs.take k).map (plainM d)).length = k):=by rw [Hid,List.length_map,List.length_take,← HN3.out];omega
     have hkr:=below_keeps HB0r.out
     have hge:b < B:=by have h1:b < w0.heap.size:=World.block_lt_of_cell? w0 _ g0;have:=HB0.out.size;have:=HBB.out;omega
     replace g0:=hkr _ _ g0
     replace g1:=hkr _ _ g1
     obtain ⟨z1,m1,r1,z2,m2,r2,e1,e2⟩:=msg_form hM
     subst e1
     subst e2
     have hix:=index_run Tryz.underlying89 size_rmsg ha k hlk (cap:=q3)
     have gl:=World.block_lt_of_cell? wr _ g0
     have HC:=hid (HRE.out wr.drew _ y HB0r.out.drew hM HMY.out)
     clear hM hy hkr ha hVB
     go_upto_region 10 with fail
     have e0:wr.drew.cell? ⟨B + 1,3,none⟩ = some (.slice sa k sc):=HI3
     have k01:wr.drew.cell? ⟨B,3,none⟩ = some (.slice a3 n3 q3):=d3
     have k02:wr.drew.cell? ⟨b,o + k * 2,none⟩ = some (.slice z1 m1 r1):=g0
     have k03:wr.drew.cell? ⟨b,o + k * 2 + 1,none⟩ = some (.slice z2 m2 r2):=g1
     have HN3:Hid (w0.heap.size ≤ B + 1):=by have:=HB0.out.size;have:=HBB.out;show _ ≤ _;omega
     have HGE:Hid (b < B):=hge
     go_wp2_with fail
     go_region_law (first | (go_simp;go_at_call 29;(with_reducible refine HC.out.mono ?_);rintro e w1 ⟨vm,rfl,hbm,hap⟩;obtain ⟨p1,p1n,p1c,p2,p2n,p2c,rfl⟩:=hap.here.form;have hk1:∀ p u,wr.drew.cell? p = some u → w1.cell? p = some u:=below_keeps hbm;have e1:w1.cell? ⟨B + 1,3,none⟩ = some (.slice sa k sc):=hk1 _ _ e0;have k11:=hk1 _ _ k01;have k12:=hk1 _ _ k02;have k13:=hk1 _ _ k03;obtain ⟨a5,c5,w9,hr9,hB4,hB9,⟨e5,z3,l9,-⟩,hO9⟩:=HI.out.step ((Below.refl wr.heap.size wr).drew.trans hbm) (by decide) HN3.out HSL.out 89 _ 48 Tryz.underlying89 info_rmsg rfl #[.slice p1 p1n p1c,.slice p2 p2n p2c] rfl (by intro u hu;simp at hu;rcases hu with rfl | rfl <;> rfl) (plainM d y) hap (by omega) (by decide) 3 rfl;have e4:=(hB4.cell (p:=⟨B + 1,3,none⟩) (by show B + 1 < B + 1 + 1;omega)).trans HI3;have k31:=(hB9.cell (p:=⟨B,3,none⟩) (by show B < B + 1 + 1;omega)).trans d3;have k32:=(hB9.cell (p:=⟨b,o + k * 2,none⟩) (by show b < B + 1 + 1;have:=HGE.out;omega)).trans g0;have k33:=(hB9.cell (p:=⟨b,o + k * 2 + 1,none⟩) (by show b < B + 1 + 1;have:=HGE.out;omega)).trans g1;have HR9:=hid hr9;have HO9:=hid hO9;clear hr9 hO9 hB4 hB9 hk1) | (refine step_append_eq rfl (.tmp 36) (.tmp 43) _ rfl _ _ rfl rfl HR9.out ?_))
     all_goals
      go_wp2_with fail
      go_roundw
      case rel => exact ⟨k + 1,_,_,by go_num,hlk,by rw [HTKS.out];exact HO9.out⟩
      case measure => simp [intOf];omega
    ·
     obtain rfl:k = n3:=by omega
     have hI:=HI.out
     rw [show v.subs.take k = v.subs from by rw [HN3.out,List.take_length]] at hI
     have b0:=hI.cell 0 _ rfl
     have b1:=hI.cell 1 _ rfl
     have b2:=hI.cell 2 _ rfl
     have HII:=hid hI
     have hJ:=HJ.out.later HB5.out
     have hVv:Apart w0.heap.size w5.heap.size wr fun w' => ValP' d w' [.int .i64 num,.slice a1 n1 q1,.slice a2 n2 q2,.slice sa k sc] (plainV d v):=fun w' hw' => by
      have hk:=keep_apart rfl HB0r.out hw'
      refine ⟨_,_,_,by rw [show (plainV d v).num = num from HNUM.out.symm],?_,HWTS.out.2.1.keep hk,HWTS.out.2.2.keep hk,?_⟩
      ·
       show -9223372036854775808 ≤ v.num ∧ v.num ≤ 9223372036854775807
       rw [← HNUM.out];exact HWTS.out.1
      ·
       exact HII.out.at (by rw [List.length_map,← HN3.out];omega) fun b hb hc => hw' b hb (hc.imp id fun h => by have:=HBB.out;omega)
     obtain ⟨a5,c5,w9,hr9,-,-,⟨e5,z3,l9,-⟩,hO9⟩:=HJ.out.step HB5.out (by decide) (by have:=HN0.out;omega) HLEN.out 43 _ 80 Tryz.underlying43 info_rval rfl #[.int .i64 num,.slice a1 n1 q1,.slice a2 n2 q2,.slice sa k sc] rfl (by intro u hu;simp at hu;rcases hu with rfl | rfl | rfl | rfl <;> rfl) (plainV d v) hVv (by omega) (by decide) 0 rfl
     have x0:=hJ.cell 0 _ rfl
     have xl:=hJ.lt
     have HR9:=hid hr9
     have HO9:Hid (OutB (ValP' d) 91 4 w0.heap.size 45 (X + 1 + 1) [] [.slice none 0 0] W1 (w9.setCell ⟨X + 1 + 1,0,none⟩ (.slice a5 (i + 1) c5)) (.slice a5 (i + 1) c5) (((M.vals x).take (i + 1)).map (plainV d))):=by rw [Hid,HTK.out];exact hO9
     clear hI hJ hVv hO9 hr9 hVB hB57
     go_wp2_with (at_builtin;refine wpList_append_eq rfl _ _ _ rfl _ _ rfl rfl HR9.out ?_)
     go_roundw
     case rel => exact ⟨i + 1,_,_,by go_num,hlt,HO9.out⟩
     case measure => simp [intOf];omega
  ·
   obtain rfl:i = vn:=by omega
   have h1:=HJ.out
   rw [HVN.out,List.take_length,← HVN.out] at h1
   have o0:=h1.cell 0 _ rfl
   have o1:=h1.cell 1 _ rfl
   have ol:=h1.lt
   have hR:Blk wr (X + 1) [(.slice none 0 0),(.slice none 0 0)] 45:=(h1.below.block (X + 1) (by omega)).trans HR1.out
   have r0:=hR.cell 0 _ rfl
   have r1:=hR.cell 1 _ rfl
   have rl:=hR.lt
   have f0:=hR.free 0
   have s1:=hR.set 0 (.slice oa i oc)
   have r2:=s1.cell 1 _ rfl
   have f2:=s1.free 1
   have s2:=s1.set 1 (.slice none 0 0)
   have r3:=s2.cell 0 _ rfl
   have r4:=s2.cell 1 _ rfl
   have HE:=hid (HFIN.out wr (.slice oa i oc) h1)
   clear hR s1 s2 h1 hX1
   go_wp2_with fail
   refine bodyPost_ret (v:=.agg #[.slice oa i oc,.slice none 0 0]) ?_ rfl HE.out
   simp [results,Tryz.results29,go_sem,r3,r4]
theorem ref15_Plain {w0:World}:∀ d,RPlainOk w0 d
 | 0 => fun _ _ x _ _ _ => x.elim
 | d + 1 => ref15_Plain_step d (ref15_Plain d)
end Go.Proofs.YtfimpmennkfjcaaGreatDoor
