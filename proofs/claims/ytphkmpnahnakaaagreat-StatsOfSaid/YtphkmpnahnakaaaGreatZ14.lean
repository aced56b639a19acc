/- Parts of a proof: texts of the author, merged. No condition of their own. -/
import Derived.Test.YtphkmpnahnakaaaGreatZ09
import Derived.Test.YtphkmpnahnakaaaGreatZ13
import Derived.Laws.AppendOwn
import Derived.OwnWalk
import Derived.Maps.AppendAt
namespace Go.Proofs.YtphkmpnahnakaaaGreat
open Go.RowKit
theorem grown_set (w:World) (r j:Nat) (v:Value):w.grownBy (w.setCell ⟨r,j,none⟩ v) (some r):=
 have hb:=(Below.refl 0 w).setCell (p:=⟨r,j,none⟩) (Nat.zero_le _) v
 ⟨hb.os,hb.tape,hb.output,hb.size,fun k _ hr => Below.heap_setCell w _ _ k (fun e => hr (by rw [e]))⟩
theorem view_Look_fails {w:World} {v vf:Value} {l:List UInt8} {fs:List Fld} (h:Bytes w v l) (hf:FieldsAt w vf fs) (nm:ByteArray) (i:Nat) (hi63:i ≤ 9223372036854775807) (c:Nat) (e:vlook fs l i = (.none,0,false,c)) :
  Calls Tryz.prog 66 #[.agg #[.string nm,vf],v,.int .i64 i] w fun e w' => e = .returned (.tuple #[viewV .none 0 false,.int .u8 c]) ∧ Below w.heap.size w w':=by
 have:=view_Look h hf nm i hi63
 rw [e] at this
 exact this
theorem view_Look_tells {w:World} {v vf:Value} {l:List UInt8} {fs:List Fld} (h:Bytes w v l) (hf:FieldsAt w vf fs) (nm:ByteArray) (i:Nat) (hi63:i ≤ 9223372036854775807) (r:Rec) (k:Int) (run:Bool) (e:vlook fs l i = (r,k,run,0)) :
  Calls Tryz.prog 66 #[.agg #[.string nm,vf],v,.int .i64 i] w fun e w' => e = .returned (.tuple #[viewV r k run,.int .u8 0]) ∧ Below w.heap.size w w':=by
 have:=view_Look h hf nm i hi63
 rw [e] at this
 exact this
set_option maxRecDepth 100000 in
set_option maxHeartbeats 4000000 in
theorem valid_message_step {w0:World} {cb:Nat} {sv:Value} {s:List Mes} (hS:SchemaAt w0 sv s) (hs:sright s = true) (d:Nat) (hrec:d ≠ 0 → MsgC w0 cb sv s (d - 1)):MsgC w0 cb sv s d:=by
 rintro m depth fr zf zd zm w v l rfl rfl rfl hm hC hv hl hd
 obtain ⟨x,HX⟩:∃ x,Hid (x = vmsg s d m l):=⟨_,rfl⟩
 rw [← HX.out]
 have HX0:Hid (x = vfrom s d m l 0):=by rw [Hid,HX.out,vmsg_from]
 obtain ⟨dd,hblk⟩:=hC.blk
 have HBK:=hid hblk
 have HC:=hid hC
 have HS:=hid hS
 have HV:=hid hv
 obtain ⟨hslen,sa,scap,rfl,hat⟩:=hS.open
 obtain ⟨sb,so,fv,rfl,hnm,c0,c1,hfat⟩:=hat m hm
 clear hat hS
 obtain ⟨hvl,va,vcap,rfl,-,-,-,-⟩:=hv.open
 obtain ⟨ln,HL⟩:∃ ln,Hid (ln = l.length):=⟨_,rfl⟩
 rw [← HL.out] at hl hvl HV ⊢
 obtain ⟨sn,HSN⟩:∃ sn,Hid (sn = s.length):=⟨_,rfl⟩
 have HRE:=hid hrec
 clear hrec
 rw [← HSN.out] at hslen HBK HS HRE ⊢
 have hmn:m < sn:=by rw [HSN.out];exact hm
 have HC0:=hid c0
 have HC1:=hid c1
 have HFT:=hid hfat
 clear c0 c1 hfat hblk hC hv
 have k0:=HBK.out.cell 0 _ rfl
 have k1:=HBK.out.cell 1 _ rfl
 have kz:=HBK.out.free
 have kl:=HBK.out.lt
 go_enter Tryz.func65,Tryz.ntmps65
 go_upto_region 1 with fail
 go_cut [] (fun wx => Hid (Chk w0 cb (.slice (some ⟨sb,so,none⟩) sn scap) wx ∧ w.grownBy wx (some cb)))
 case first =>
  go_wp2
  all_goals
   go_meet
   case rel =>
    exact ⟨⟨HC.out.le,HC.out.below.setCell HC.out.le _,⟨_,HBK.out.set 1 _⟩⟩,grown_set _ _ _ _⟩
 case rest =>
  have HCC:=hcut
  clear k0 k1 kz kl hcut
  go_wp2
  go_loopw [14,15] (fun v14 _ wr => ∃ i:Nat,i ≤ ln ∧ v14 = .int .i64 i ∧ Hid (Chk w0 cb (.slice (some ⟨sb,so,none⟩) sn scap) wr ∧ w.grownBy wr (some cb)) ∧ Hid (x = vfrom s d m l i)) (fun v14 _ _ => ln - (intOf v14).toNat)
  case atStart => exact ⟨0,by omega,rfl,HCC,HX0⟩
  case round =>
   obtain ⟨i,hi,rfl,HCR,HXI⟩:=hrel
   obtain ⟨dr,hbr⟩:=HCR.out.1.blk
   have hkr:=below_keeps HCR.out.1.below
   have k0:=hbr.cell 0 _ rfl
   have c0:=hkr _ _ HC0.out
   have c1:=hkr _ _ HC1.out
   have kl:=hbr.lt
   have HVR:=hid (HV.out.keep hkr)
   have HFR:=hid (HFT.out.keep hkr)
   clear hkr hbr
   obtain ⟨nm,HNM⟩:∃ nm,Hid (nm = (s.getD m .zero).name):=⟨_,rfl⟩
   rw [← HNM.out] at c0
   by_cases hlt:i < ln
   ·
    have hxi:=HXI.out
    rw [vfrom_at,if_neg (by have:=HL.out;omega)] at hxi
    rcases vlook_cases (s.getD m .zero).fields l i with ⟨c,hc,e,hc256⟩ | ⟨r,h1,h2,h3,h4,-,hcase⟩
    ·
     rw [e,if_pos hc] at hxi
     obtain rfl:x = (i,c):=hxi
     have HE:=hid e
     have ec:((c:Int) != 0) = true:=by simp;omega
     have HCNZ:=hid hc
     have w1:IntKind.i64.wrap ((fr:Int) + (i:Int)) = fr + i:=IntWalk.i64_in _ (by omega)
     clear e hc
     go_wp2_with (go_at_call 66;refine (view_Look_fails HVR.out HFR.out nm i (by omega) c HE.out).mono ?_;rintro e w1 ⟨rfl,hb1⟩;unfold viewV Rec.none)
     go_ret2
     refine ⟨ret2 (int_eq (k:=.i64) (a:=(fr:Int) + i) ?_) rfl,(HCR.out.1.later hb1).later ((Below.refl _ _).alloc (Nat.le_refl _) _),grown_below (grown_below HCR.out.2 hb1) ((Below.refl _ _).alloc (Nat.le_refl _) _)⟩
     first | rfl | (rw [if_neg HCNZ.out];simp)
    ·
     rcases hcase with e | ⟨k,run,hk,e,hkn,hrun,hnr⟩
     ·
      rw [e,if_neg (by simp)] at hxi
      have hv0:vval (vrec s d) (decide (d = 0)) (s.getD m .zero).fields l (r,-1,false,0) = (0,0):=rfl
      rw [hv0,if_neg (by simp)] at hxi
      have HX1:=hid hxi
      have HE:=hid e
      have HR4:=hid (show i < r.to ∧ r.to ≤ ln by rw [HL.out];omega)
      clear e hxi h1 h2 h3 h4
      obtain ⟨r1,r2,r3,r4,r5⟩:=r
      go_wp2_with (go_at_call 66;refine (view_Look_tells HVR.out HFR.out nm i (by omega) _ _ _ HE.out).mono ?_;rintro e w1 ⟨rfl,hb1⟩;unfold viewV;have HC1':=hid ((HCR.out.1.later hb1).later ((Below.refl w1.heap.size w1).alloc (Nat.le_refl _) (.cells #[.int .i64 r1,.int .i64 r2,.int .i64 r3,.int .i64 r4,.int .i64 r5,.int .i64 (-1),.bool false] 109)));have HG1:=hid (grown_below (grown_below HCR.out.2 hb1) ((Below.refl w1.heap.size w1).alloc (Nat.le_refl _) (.cells #[.int .i64 r1,.int .i64 r2,.int .i64 r3,.int .i64 r4,.int .i64 r5,.int .i64 (-1),.bool false] 109)));have HNB:=hid (Blk.new w1 [.int .i64 r1,.int .i64 r2,.int .i64 r3,.int .i64 r4,.int .i64 r5,.int .i64 (-1),.bool false] 109);have hcl:cb < w1.heap.size:=(Nat.lt_of_lt_of_le kl hb1.size);clear hb1)
      refine (valid_value_unknown m depth fr ⟨r1,r2,r3,r4,r5⟩ HC1'.out _).mono ?_
      rintro e w3 ⟨⟨p,rfl,-⟩,hC3,hg3⟩
      have v4:=(HNB.out.grown hg3 (by omega)).cell 4 _ rfl
      have HC3:=hid (And.intro hC3 (grown_grown HG1.out hg3))
      clear hC3 hg3
      go_wp2
      go_roundw
      case rel => exact ⟨r5,HR4.out.2,rfl,HC3,HX1⟩
      case measure => have h9:=HR4.out;simp [intOf];omega
     ·
      rw [e,if_neg (by simp)] at hxi
      have HE:=hid e
      have HR4:=hid (show r.start < r.at' ∧ r.at' ≤ r.to ∧ r.to ≤ l.length ∧ i < r.to ∧ r.to ≤ ln by rw [HL.out];omega)
      have HXI2:=hid hxi
      have HRU:=hid (fun h => (hrun h).2.1)
      have HK:=hid hk
      clear e hxi h1 h2 h3 h4 hrun hnr hkn hk
      obtain ⟨r1,r2,r3,r4,r5⟩:=r
      obtain ⟨y,HY⟩:∃ y,Hid (y = vval (vrec s d) (decide (d = 0)) (s.getD m .zero).fields l (⟨r1,r2,r3,r4,r5⟩,(k:Int),run,0)):=⟨_,rfl⟩
      have hx2:=HXI2.out
      rw [← HY.out] at hx2
      have HX2:=hid hx2
      clear hx2 HXI2
      go_wp2_with (go_at_call 66;refine (view_Look_tells HVR.out HFR.out nm i (by omega) _ _ _ HE.out).mono ?_;rintro e w1 ⟨rfl,hb1⟩;unfold viewV;have HC1':=hid ((HCR.out.1.later hb1).later ((Below.refl w1.heap.size w1).alloc (Nat.le_refl _) (.cells #[.int .i64 r1,.int .i64 r2,.int .i64 r3,.int .i64 r4,.int .i64 r5,.int .i64 k,.bool run] 109)));have HG1:=hid (grown_below (grown_below HCR.out.2 hb1) ((Below.refl w1.heap.size w1).alloc (Nat.le_refl _) (.cells #[.int .i64 r1,.int .i64 r2,.int .i64 r3,.int .i64 r4,.int .i64 r5,.int .i64 k,.bool run] 109)));have HNB:=hid (Blk.new w1 [.int .i64 r1,.int .i64 r2,.int .i64 r3,.int .i64 r4,.int .i64 r5,.int .i64 k,.bool run] 109);have hcl:cb < w1.heap.size:=(Nat.lt_of_lt_of_le kl hb1.size);clear hb1)
      have hval:=valid_value_known HS.out hs d m depth fr hm HV.out (by have:=HL.out;omega) hd HRE.out ⟨r1,r2,r3,r4,r5⟩ HR4.out.1 HR4.out.2.1 HR4.out.2.2.1 k HK.out run HRU.out HC1'.out
      rw [← HY.out] at hval
      refine hval.mono ?_
      rintro e w3 ⟨⟨p,rfl,hp⟩,hC3,hg3⟩
      have v4:=(HNB.out.grown hg3 (by omega)).cell 4 _ rfl
      have HC3:=hid (And.intro hC3 (grown_grown HG1.out hg3))
      have HP:=hid hp
      clear hC3 hg3 hp hval
      obtain ⟨y1,y2⟩:=y
      by_cases hy:y2 = 0
      ·
       subst hy
       have HX3:Hid (x = vfrom s d m l r5):=by rw [Hid,HX2.out,if_neg (by simp)]
       go_wp2
       go_roundw
       case rel => exact ⟨r5,HR4.out.2.2.2.2,rfl,HC3,HX3⟩
       case measure => have h9:=HR4.out;simp [intOf];omega
      ·
       obtain rfl:x = (y1,y2):=by rw [HX2.out,if_pos hy]
       have ey:((y2:Int) != 0) = true:=by simp;omega
       have HYN:=hid hy
       obtain rfl:p = fr + y1:=HP.out hy
       clear hy
       go_wp2
       go_ret2
       refine ⟨ret2 (int_eq (k:=.i64) (a:=((fr + y1:Nat):Int)) ?_) rfl,HC3.out.1,HC3.out.2⟩
       first | rfl | (rw [if_neg HYN.out])
   ·
    obtain rfl:i = ln:=by omega
    obtain rfl:x = (0,0):=by rw [HXI.out,vfrom_at,if_pos (by rw [HL.out];exact Nat.le_refl _)]
    go_wp2
    go_ret2
    exact ⟨ret2 (int_eq (k:=.i64) (a:=0) (by simp)) rfl,HCR.out.1,HCR.out.2⟩
theorem valid_message {w0:World} {cb:Nat} {sv:Value} {s:List Mes} (hS:SchemaAt w0 sv s) (hs:sright s = true):∀ d,MsgC w0 cb sv s d
 | 0 => valid_message_step hS hs 0 (fun h => absurd rfl h)
 | d + 1 => valid_message_step hS hs (d + 1) (fun _ => valid_message hS hs d)
end Go.Proofs.YtphkmpnahnakaaaGreat
namespace Go.Proofs.YtphkmpnahnakaaaGreat
open Go.RowKit
def vcheck (s:List Mes) (root:Int) (l:List UInt8) (d:Int):Nat × Nat:=
 if argsCode s root d ≠ 0 then (0,argsCode s root d) else (if (vmsg s d.toNat root.toNat l).2 = 0 then 0 else (vmsg s d.toNat root.toNat l).1,(vmsg s d.toNat root.toNat l).2)
theorem args_ok {s:List Mes} {root d:Int} (h:argsCode s root d = 0):sright s = true ∧ 0 ≤ root ∧ root < s.length ∧ 0 ≤ d ∧ d ≤ 64:=by
 unfold argsCode at h
 by_cases h1:sright s = false
 ·
  rw [if_pos h1] at h;omega
 rw [if_neg h1] at h
 by_cases h2:root < 0 ∨ (s.length:Int) ≤ root ∨ d < 0 ∨ 64 < d
 ·
  rw [if_pos h2] at h;omega
 exact ⟨by simpa using h1,by omega,by omega,by omega,by omega⟩
theorem args_cases (s:List Mes) (root d:Int):argsCode s root d = 0 ∨ argsCode s root d = 9 ∨ argsCode s root d = 2:=by
 unfold argsCode
 split
 ·
  exact .inr (.inl rfl)
 ·
  split
  ·
   exact .inr (.inr rfl)
  ·
   exact .inl rfl
set_option maxRecDepth 100000 in
set_option maxHeartbeats 4000000 in
theorem valid_check {w:World} {vs vb:Value} {s:List Mes} {l:List UInt8} (hS:SchemaAt w vs s) (hb:Bytes w vb l) (root d:Int) :
  Calls Tryz.prog 42 #[vs,.int .i64 root,vb,.int .i64 d] w fun e w' => (∃ n:Int,e = .returned (.tuple #[.int .i64 (vcheck s root l d).1,.int .i64 n,.int .u8 (vcheck s root l d).2])) ∧ Below w.heap.size w w':=by
 have HA:=hid (valid_Args hS root d)
 rcases args_cases s root d with h | h | h
 ·
  obtain ⟨g1,g2,g3,g4,g5⟩:=args_ok h
  obtain ⟨m,rfl⟩:∃ m:Nat,root = m:=⟨root.toNat,by omega⟩
  obtain ⟨k,rfl⟩:∃ k:Nat,d = k:=⟨d.toNat,by omega⟩
  obtain ⟨x,HX⟩:∃ x,Hid (x = vmsg s k m l):=⟨_,rfl⟩
  have hx:vcheck s m l k = (if x.2 = 0 then 0 else x.1,x.2):=by
   unfold vcheck
   rw [if_neg (by rw [h];decide),HX.out];rfl
  obtain ⟨z,HZ⟩:∃ z:Nat,Hid (z = if x.2 = 0 then 0 else x.1):=⟨_,rfl⟩
  rw [hx,← HZ.out]
  rw [h] at HA
  clear hx h
  obtain ⟨hslen,sa,scap,rfl,-⟩:=hS.open
  obtain ⟨hbl,va,vcap,rfl,-,-,-,-⟩:=hb.open
  obtain ⟨ln,HL⟩:∃ ln,Hid (ln = l.length):=⟨_,rfl⟩
  rw [← HL.out] at hbl hb ⊢
  obtain ⟨sn,HSN⟩:∃ sn,Hid (sn = s.length):=⟨_,rfl⟩
  rw [← HSN.out] at hslen hS HA ⊢
  have HS:=hid hS
  have HB:=hid hb
  have H3:=hid g3
  clear g3 hS hb
  go_enter Tryz.func42,Tryz.ntmps42
  go_wp2_with (go_at_call 64;refine HA.out.mono ?_;rintro e w1 ⟨rfl,hb1⟩)
  have HC:=hid (show Chk w w1.heap.size (.slice sa sn scap) (w1.alloc (.cells #[.slice sa sn scap,.int .i64 0] 138)) from ⟨hb1.size,hb1.alloc hb1.size _,⟨0,Blk.new w1 [.slice sa sn scap,.int .i64 0] _⟩⟩)
  have hM:=valid_message HS.out g1 k m 0 0 0 0 k _ _ l rfl rfl (by omega) (by have:=H3.out;omega) HC.out HB.out (by rw [← HL.out];omega) (by omega)
  rw [← HX.out] at hM
  refine hM.mono ?_
  rintro e w2 ⟨rfl,hC2,hg2⟩
  obtain ⟨dd,hbk⟩:=hC2.blk
  have b1:=hbk.cell 1 _ rfl
  have hle:=hbk.lt
  have HW2:=hid hC2.below
  clear hbk hC2 hg2 hb1 hM
  simp only [Nat.zero_add]
  rw [← HZ.out]
  obtain ⟨x1,x2⟩:=x
  simp only
  go_wp2_with fail
  go_quiet (fail)
  go_wp2
  go_ret3
  exact ⟨⟨_,rfl⟩,below_drewN HW2.out _⟩
 all_goals
  have hx:vcheck s root l d = (0,argsCode s root d):=by
   unfold vcheck
   rw [if_pos (by rw [h];decide)]
  rw [hx,h]
  rw [h] at HA
  clear hx
  go_enter Tryz.func42,Tryz.ntmps42
  go_wp2_with (go_at_call 64;refine HA.out.mono ?_;rintro e w1 ⟨rfl,hb1⟩)
  go_ret3
  exact ⟨⟨0,rfl⟩,hb1⟩
set_option maxRecDepth 100000 in
theorem valid_Check {w:World} {vs vb:Value} {s:List Mes} {l:List UInt8} (hS:SchemaAt w vs s) (hb:Bytes w vb l) (root d:Int) :
  Calls Tryz.prog 25 #[vs,.int .i64 root,vb,.int .i64 d] w fun e w' => e = .returned (.tuple #[.int .i64 (vcheck s root l d).1,.int .u8 (vcheck s root l d).2]) ∧ Below w.heap.size w w':=by
 go_enter Tryz.func25,Tryz.ntmps25
 go_wp2_with (go_at_call 42;refine (valid_check hS hb root d).mono ?_;rintro e w1 ⟨⟨n,rfl⟩,hb1⟩)
 go_ret2
 exact ⟨rfl,hb1⟩
end Go.Proofs.YtphkmpnahnakaaaGreat
namespace Go.Proofs.YtphkmpnahnakaaaGreat
open Go.RowKit
theorem kwire_num (k:Int) (h:knumber k = true):kwire k = if k < 9 then 0 else if k < 12 then 5 else 1:=by
 have h':1 ≤ k ∧ k ≤ 14:=of_decide_eq_true h
 unfold kwire
 rw [if_neg (by omega),if_neg (by omega)]
 by_cases h1:k < 9
 ·
  rw [if_neg (by omega),if_neg (by omega),if_pos h1]
 ·
  rw [if_neg h1]
  by_cases h2:k < 12
  ·
   rw [if_neg (by omega),if_pos (by omega),if_pos h2]
  ·
   rw [if_pos (by omega),if_neg h2]
set_option maxRecDepth 100000 in
set_option maxHeartbeats 4000000 in
theorem ref09_Ends {w:World} {v:Value} {l:List UInt8} (h:Bytes w v l) (hsm:l.length ≤ 1099511627776) (k:Int) (hk:knumber k = true) :
  Calls Tryz.prog 33 #[.int .i64 k,v] w fun e w' => (∃ o,e = .returned (.tuple #[o,.int .i64 (runCount (kwire k) l).2])) ∧ Below w.heap.size w w':=by
 obtain ⟨hlen,a,cap,rfl,-,-,-,hcell⟩:=h.open
 obtain ⟨n,HN⟩:∃ n,Hid (n = l.length):=⟨_,rfl⟩
 obtain ⟨x,HX⟩:∃ x,Hid (x = (runCount (kwire k) l).2):=⟨_,rfl⟩
 rw [← HX.out]
 have H:=hid h
 rw [← HN.out] at hlen hcell hsm ⊢
 clear hcell
 have HK:=hid hk
 clear hk h
 go_enter Tryz.func33,Tryz.ntmps33
 go_wp2_with (go_at_call 39;refine (ref06_Number k _).mono ?_;rintro e w' ⟨rfl,rfl⟩;rw [HK.out])
 obtain ⟨i0,hinf,hz0,hz1,hz2⟩:=info_parts (show (Tryz.prog.info? 3).map (fun i => (i.zero,i.size,i.bytes)) = some (some (.int .i64 0),1,8) by kernel_rfl)
 have HZ:=hid (And.intro hinf (And.intro hz0 (And.intro hz1 hz2)))
 clear hinf hz0 hz1 hz2
 go_loopw [6,7] (fun v6 v7 wr => ∃ i:Nat,i ≤ n ∧ v7 = .int .i64 i ∧ Hid ((runCount (kwire k) (l.drop i)).2 = x) ∧ (∃ cnt row,Hid (wr.ownsRow w.heap.size 3 1 v6 cnt row) ∧ Hid (cnt ≤ i)) ∧ Hid (Below w.heap.size w wr)) (fun _ v7 _ => n - (intOf v7).toNat)
 case atStart => exact ⟨0,by omega,rfl,HX.out.symm,⟨0,[],World.ownsRow_nil _ _ _ _,Nat.le_refl _⟩,Below.refl _ _⟩
 case round =>
  obtain ⟨i,hi,rfl,HR,⟨cnt,row,HOWN,HCN⟩,HBEL⟩:=hrel
  by_cases hlt:i < n
  ·
   have hwr:Bytes wr (.slice a n cap) l:=by
    have:=H.out.keep (below_keeps HBEL.out)
    rw [HN.out];exact this
   have hne:l.drop i ≠ []:=by
    intro e
    have:=congrArg List.length e
    simp at this
    have:=HN.out
    omega
   have HNE:=hid hne
   clear hne
   rcases runSize_cases (kwire k) (l.drop i) with ⟨m,e,h1,h2,h3⟩ | ⟨c,e,hc⟩
   ·
    have HE:=hid e
    have HST:=hid (runCount_step (kwire k) (l.drop i) HNE.out m e)
    have hin:i + m ≤ n:=by rw [List.length_drop] at h3;have:=HN.out;omega
    clear e h3
    have HWR:=hid hwr
    clear hwr
    by_cases hk9:k < 9
    ·
     have hv:∃ wv,Hid (vread (l.drop i) = (wv,m,0)):=by
      have:=HE.out
      unfold runSize at this
      rw [if_pos (by have:=HK.out;unfold kwire;simp [knumber] at this;(repeat (first | rw [if_neg (by omega)] | rw [if_pos (by omega)])))] at this
      injection this with e1 e2
      exact ⟨(vread (l.drop i)).1,by rw [Hid,← e1,← e2]⟩
     obtain ⟨wv,HVR⟩:=hv
     go_wp2_with (first | (go_at_call 56;refine (ref02_Read_at HWR.out _ i rfl (by rw [← HN.out];omega)).mono ?_;rintro e w' ⟨rfl,rfl⟩;rw [HVR.out]) | (at_builtin;(refine wpList_append_own _ rfl _ _ 33 rfl w.heap.size 3 i0 (.int .i64 0) 1 8 Tryz.underlying33 HZ.out.1 HZ.out.2.1 HZ.out.2.2.1 HZ.out.2.2.2 rfl (by decide) _ _ _ rfl (HOWN.out.alloc _) ⟨wr.heap.size,0,none⟩ 1 1 [.int .i64 ((i:Int) + (m:Int))] rfl rfl (cell_one_new _ _ _) (by simp [Value.oneCell']) (by have:=HCN.out;simp only [maxLen];omega) (by have:=HCN.out;omega) (by have:=HBEL.out.size;simp;omega) ?_);intro v' w1 hown' hgrow _))
     go_roundw
     case rel =>
      refine ⟨i + m,hin,by go_num,?_,⟨cnt + 1,_,hown',by have:=HCN.out;show cnt + 1 ≤ i + m;omega⟩,?_⟩
      ·
       have h5:=HST.out
       rw [List.drop_drop] at h5
       rw [Hid,← HR.out,h5]
       by_cases h6:(runCount (kwire k) (l.drop (i + m))).2 = 0 <;> simp [h6]
      ·
       exact (HBEL.out.alloc HBEL.out.size _).grown hgrow (by simp;have:=HBEL.out.size;omega) (fun q e => (HOWN.out.lt q e).1)
     case measure => simp [intOf];omega
    ·
     have hmm:m = if kwire k = 1 then 8 else 4:=by
      have h7:=HE.out
      unfold runSize at h7
      rw [if_neg (by rw [kwire_num k HK.out,if_neg hk9];split <;> decide)] at h7
      by_cases h8:(l.drop i).length < (if kwire k = 1 then 8 else 4)
      ·
       rw [if_pos h8] at h7;cases h7
      ·
       rw [if_neg h8] at h7;exact (congrArg Prod.fst h7).symm
     by_cases hk12:k < 12
     ·
      obtain rfl:m = 4:=by
       rw [hmm,kwire_num k HK.out,if_neg hk9,if_pos hk12];rfl
      clear hmm
      go_wp2_with (at_builtin;(refine wpList_append_own _ rfl _ _ 33 rfl w.heap.size 3 i0 (.int .i64 0) 1 8 Tryz.underlying33 HZ.out.1 HZ.out.2.1 HZ.out.2.2.1 HZ.out.2.2.2 rfl (by decide) _ _ _ rfl (HOWN.out.alloc _) ⟨wr.heap.size,0,none⟩ 1 1 [.int .i64 ((i:Int) + 4)] rfl rfl (cell_one_new _ _ _) (by simp [Value.oneCell']) (by have:=HCN.out;simp only [maxLen];omega) (by have:=HCN.out;omega) (by have:=HBEL.out.size;simp;omega) ?_);intro v' w1 hown' hgrow _)
      go_roundw
      case rel =>
       refine ⟨i + 4,hin,by go_num,?_,⟨cnt + 1,_,hown',by have:=HCN.out;show cnt + 1 ≤ i + 4;omega⟩,?_⟩
       ·
        have h5:=HST.out
        rw [List.drop_drop] at h5
        rw [Hid,← HR.out,h5]
        by_cases h6:(runCount (kwire k) (l.drop (i + 4))).2 = 0 <;> simp [h6]
       ·
        exact (HBEL.out.alloc HBEL.out.size _).grown hgrow (by simp;have:=HBEL.out.size;omega) (fun q e => (HOWN.out.lt q e).1)
      case measure => simp [intOf];omega
     ·
      obtain rfl:m = 8:=by
       rw [hmm,kwire_num k HK.out,if_neg hk9,if_neg hk12];rfl
      clear hmm
      go_wp2_with (at_builtin;(refine wpList_append_own _ rfl _ _ 33 rfl w.heap.size 3 i0 (.int .i64 0) 1 8 Tryz.underlying33 HZ.out.1 HZ.out.2.1 HZ.out.2.2.1 HZ.out.2.2.2 rfl (by decide) _ _ _ rfl (HOWN.out.alloc _) ⟨wr.heap.size,0,none⟩ 1 1 [.int .i64 ((i:Int) + 8)] rfl rfl (cell_one_new _ _ _) (by simp [Value.oneCell']) (by have:=HCN.out;simp only [maxLen];omega) (by have:=HCN.out;omega) (by have:=HBEL.out.size;simp;omega) ?_);intro v' w1 hown' hgrow _)
      go_roundw
      case rel =>
       refine ⟨i + 8,hin,by go_num,?_,⟨cnt + 1,_,hown',by have:=HCN.out;show cnt + 1 ≤ i + 8;omega⟩,?_⟩
       ·
        have h5:=HST.out
        rw [List.drop_drop] at h5
        rw [Hid,← HR.out,h5]
        by_cases h6:(runCount (kwire k) (l.drop (i + 8))).2 = 0 <;> simp [h6]
       ·
        exact (HBEL.out.alloc HBEL.out.size _).grown hgrow (by simp;have:=HBEL.out.size;omega) (fun q e => (HOWN.out.lt q e).1)
      case measure => simp [intOf];omega
   ·
    have HE:=hid e
    have HBD:=hid (runCount_bad (kwire k) (l.drop i) HNE.out c (by omega) (by rw [e]))
    obtain rfl:x = c:=by rw [← HR.out,HBD.out]
    have HWR:=hid hwr
    clear hwr e
    by_cases hk9:k < 9
    ·
     obtain ⟨wv,HVR⟩:∃ wv,Hid (vread (l.drop i) = (wv,0,x)):=by
      have:=HE.out
      unfold runSize at this
      rw [if_pos (by rw [kwire_num k HK.out,if_pos hk9])] at this
      injection this with e1 e2
      exact ⟨(vread (l.drop i)).1,by rw [Hid,← e1,← e2]⟩
     have e1:((x:Int) == 0) = false:=by simp;omega
     have e2:((x:Int) != 0) = true:=by simp;omega
     have HCC:=hid hc
     clear hc
     go_wp2_with (go_at_call 56;refine (ref02_Read_at HWR.out _ i rfl (by rw [← HN.out];omega)).mono ?_;rintro e w' ⟨rfl,rfl⟩;rw [HVR.out])
     go_ret2
     exact ⟨⟨_,rfl⟩,HBEL.out⟩
    ·
     by_cases hk12:k < 12
     ·
      obtain ⟨rfl,hs⟩:x = 3 ∧ n < i + 4:=by
       have h7:=HE.out
       unfold runSize at h7
       rw [if_neg (by rw [kwire_num k HK.out,if_neg hk9];split <;> decide)] at h7
       by_cases h8:(l.drop i).length < (if kwire k = 1 then 8 else 4)
       ·
        rw [if_pos h8] at h7
        rw [kwire_num k HK.out,if_neg hk9,if_pos hk12,List.length_drop] at h8
        have:=HN.out
        exact ⟨(congrArg Prod.snd h7).symm,by simp at h8;omega⟩
       ·
        rw [if_neg h8] at h7;have:=congrArg Prod.snd h7;simp at this;omega
      go_wp2
      go_ret2
      exact ⟨⟨_,rfl⟩,HBEL.out⟩
     ·
      obtain ⟨rfl,hs⟩:x = 3 ∧ n < i + 8:=by
       have h7:=HE.out
       unfold runSize at h7
       rw [if_neg (by rw [kwire_num k HK.out,if_neg hk9];split <;> decide)] at h7
       by_cases h8:(l.drop i).length < (if kwire k = 1 then 8 else 4)
       ·
        rw [if_pos h8] at h7
        rw [kwire_num k HK.out,if_neg hk9,if_neg hk12,List.length_drop] at h8
        have:=HN.out
        exact ⟨(congrArg Prod.snd h7).symm,by simp at h8;omega⟩
       ·
        rw [if_neg h8] at h7;have:=congrArg Prod.snd h7;simp at this;omega
      go_wp2
      go_ret2
      exact ⟨⟨_,rfl⟩,HBEL.out⟩
  ·
   obtain rfl:i = n:=by omega
   obtain rfl:x = 0:=by
    rw [← HR.out,List.drop_eq_nil_of_le (by rw [HN.out];exact Nat.le_refl _),runCount_nil]
   go_wp2
   go_ret2
   exact ⟨⟨_,rfl⟩,HBEL.out⟩
end Go.Proofs.YtphkmpnahnakaaaGreat
namespace Go.Proofs.YtphkmpnahnakaaaGreat
open Go.RowKit
def FirstC (w0:World) (sv:Value) (s:List Mes) (d:Nat):Prop:=
 ∀ (m:Nat) (zd:Int) (w:World) (v:Value) (l:List UInt8),zd = d → m < s.length → Below w0.heap.size w0 w → Bytes w0 v l → l.length ≤ 1099511627776 →
  Calls Tryz.prog 19 #[sv,.int .i64 m,v,.int .i64 zd] w fun e w' =>
   e = .returned (.tuple #[.int .i64 (if (vmsg s d m l).2 = 0 then 0 else (vmsg s d m l).1:Nat),.int .i64 (vmsg s d m l).2]) ∧ Below w.heap.size w w'
theorem ref10_Look_fails {w:World} {v vf:Value} {l:List UInt8} {fs:List Fld} (h:Bytes w v l) (hf:FieldsAt w vf fs) (nm:ByteArray) (i:Nat) (c:Nat) (e:vlook fs l i = (.none,0,false,c)) :
  Calls Tryz.prog 32 #[.agg #[.string nm,vf],v,.int .i64 i] w fun e w' => e = .returned (.tuple #[viewV .none 0 false,.int .i64 c]) ∧ Below w.heap.size w w':=by
 have:=ref10_Look h hf nm i
 rw [e] at this
 exact this
theorem ref10_Look_tells {w:World} {v vf:Value} {l:List UInt8} {fs:List Fld} (h:Bytes w v l) (hf:FieldsAt w vf fs) (nm:ByteArray) (i:Nat) (r:Rec) (k:Int) (run:Bool) (e:vlook fs l i = (r,k,run,0)) :
  Calls Tryz.prog 32 #[.agg #[.string nm,vf],v,.int .i64 i] w fun e w' => e = .returned (.tuple #[viewV r k run,.int .i64 0]) ∧ Below w.heap.size w w':=by
 have:=ref10_Look h hf nm i
 rw [e] at this
 exact this
theorem vloop_place (rec:Nat → List UInt8 → Nat × Nat) (deep:Bool) (fs:List Fld) (l:List UInt8) (hrec:∀ o x,(rec o x).1 ≤ x.length):∀ (k i:Nat),(vloop rec deep fs l k i).1 ≤ l.length
 | 0,_ => Nat.zero_le _
 | k + 1,i => by
  rw [vloop]
  by_cases hi:l.length ≤ i
  ·
   rw [if_pos hi];exact Nat.zero_le _
  rw [if_neg hi]
  by_cases hc:(vlook fs l i).2.2.2 ≠ 0
  ·
   rw [if_pos hc];show i ≤ l.length;omega
  rw [if_neg hc]
  by_cases hv:(vval rec deep fs l (vlook fs l i)).2 ≠ 0
  ·
   rw [if_pos hv]
   rcases vlook_cases fs l i with ⟨c,h,e,-⟩ | ⟨r,h1,h2,h3,h4,-,e | ⟨j,run,-,e,-⟩⟩
   ·
    rw [e] at hc;exact absurd h (by simpa using hc)
   ·
    rw [e];exact Nat.zero_le _
   ·
    rw [e]
    have h5:=hrec (fs.getD j .zero).of.toNat (part l r.at' r.to)
    rw [part_len l _ _ h3 h4] at h5
    unfold vval
    rw [if_neg (by show ¬ ((j:Int) < 0);omega)]
    simp only [Int.toNat_natCast]
    split
    ·
     show r.start ≤ _;omega
    ·
     split
     ·
      split
      ·
       exact Nat.zero_le _
      ·
       show r.start ≤ _;omega
     ·
      split
      ·
       split
       ·
        show r.start ≤ _;omega
       ·
        show r.at' + _ ≤ _;omega
      ·
       exact Nat.zero_le _
  ·
   rw [if_neg hv];exact vloop_place rec deep fs l hrec k _
theorem vmsg_place (s:List Mes):∀ (d m:Nat) (l:List UInt8),(vmsg s d m l).1 ≤ l.length
 | 0,_m,l => vloop_place _ _ _ l (fun _ _ => Nat.zero_le _) _ _
 | d + 1,_m,l => vloop_place _ _ _ l (vmsg_place s d) _ _
set_option maxRecDepth 100000 in
set_option maxHeartbeats 4000000 in
theorem ref11_First_step {w0:World} {sv:Value} {s:List Mes} (hS:SchemaAt w0 sv s) (hs:sright s = true) (d:Nat) (hd:d ≤ 1000) (hrec:d ≠ 0 → FirstC w0 sv s (d - 1)):FirstC w0 sv s d:=by
 rintro m zd w v l rfl hm hC hv hl
 obtain ⟨x,HX⟩:∃ x,Hid (x = vmsg s d m l):=⟨_,rfl⟩
 rw [← HX.out]
 have HX0:Hid (x = vfrom s d m l 0):=by rw [Hid,HX.out,vmsg_from]
 have HC:=hid hC
 have HS:=hid hS
 have HV:=hid hv
 obtain ⟨hslen,sa,scap,rfl,hat⟩:=hS.open
 obtain ⟨sb,so,fv,rfl,hnm,c0,c1,hfat⟩:=hat m hm
 clear hat hS
 obtain ⟨hvl,va,vcap,rfl,-,-,-,-⟩:=hv.open
 obtain ⟨ln,HL⟩:∃ ln,Hid (ln = l.length):=⟨_,rfl⟩
 rw [← HL.out] at hl hvl HV ⊢
 obtain ⟨sn,HSN⟩:∃ sn,Hid (sn = s.length):=⟨_,rfl⟩
 have HRE:=hid hrec
 clear hrec
 rw [← HSN.out] at hslen HS HRE ⊢
 have hmn:m < sn:=by rw [HSN.out];exact hm
 have HC0:=hid c0
 have HC1:=hid c1
 have HFT:=hid hfat
 clear c0 c1 hfat hC hv
 go_enter Tryz.func19,Tryz.ntmps19
 go_wp2
 go_loopw [10,11] (fun v10 _ wr => ∃ i:Nat,i ≤ ln ∧ v10 = .int .i64 i ∧ Hid (Below w.heap.size w wr) ∧ Hid (x = vfrom s d m l i)) (fun v10 _ _ => ln - (intOf v10).toNat)
 case atStart => exact ⟨0,by omega,rfl,Below.refl _ _,HX0⟩
 case round =>
  obtain ⟨i,hi,rfl,HCR,HXI⟩:=hrel
  have hkr:=below_keeps (HC.out.trans (HCR.out.mono HC.out.size))
  have c0:=hkr _ _ HC0.out
  have c1:=hkr _ _ HC1.out
  have HVR:=hid (HV.out.keep hkr)
  have HFR:=hid (HFT.out.keep hkr)
  clear hkr
  obtain ⟨nm,HNM⟩:∃ nm,Hid (nm = (s.getD m .zero).name):=⟨_,rfl⟩
  rw [← HNM.out] at c0
  by_cases hlt:i < ln
  ·
   have hxi:=HXI.out
   rw [vfrom_at,if_neg (by have:=HL.out;omega)] at hxi
   rcases vlook_cases (s.getD m .zero).fields l i with ⟨c,hc,e,hc256⟩ | ⟨r,h1,h2,h3,h4,-,hcase⟩
   ·
    rw [e,if_pos hc] at hxi
    obtain rfl:x = (i,c):=hxi
    have HE:=hid e
    have ec:((c:Int) != 0) = true:=by simp;omega
    have HCNZ:=hid hc
    clear e hc
    go_wp2_with (go_at_call 32;refine (ref10_Look_fails HVR.out HFR.out nm i c HE.out).mono ?_;rintro e w1 ⟨rfl,hb1⟩;unfold viewV Rec.none)
    go_ret2
    refine ⟨ret2 (int_eq (k:=.i64) (a:=(i:Int)) ?_) rfl,(HCR.out.trans (hb1.mono HCR.out.size)).alloc (by have:=HCR.out.size;have:=hb1.size;omega) _⟩
    first | rfl | (rw [if_neg HCNZ.out])
   ·
    rcases hcase with e | ⟨k,run,hk,e,hkn,hrun,hnr⟩
    ·
     rw [e,if_neg (by simp)] at hxi
     have hv0:vval (vrec s d) (decide (d = 0)) (s.getD m .zero).fields l (r,-1,false,0) = (0,0):=rfl
     rw [hv0,if_neg (by simp)] at hxi
     have HX1:=hid hxi
     have HE:=hid e
     have HR4:=hid (show i < r.to ∧ r.at' ≤ r.to ∧ r.to ≤ ln by rw [HL.out];omega)
     clear e hxi h1 h2 h3 h4
     obtain ⟨r1,r2,r3,r4,r5⟩:=r
     simp only at HR4
     have hcut:=HV.out.cut HL.out r4 r5 (by have:=HR4.out;omega) (by have:=HR4.out;omega)
     obtain ⟨pa,pcap,hps,-,hpb⟩:=hcut
     have HPB:=hid hpb
     clear hpb
     go_wp2_with (go_at_call 32;refine (ref10_Look_tells HVR.out HFR.out nm i _ _ _ HE.out).mono ?_;rintro e w1 ⟨rfl,hb1⟩;unfold viewV;have HNB:=hid (Blk.new w1 [.int .i64 r1,.int .i64 r2,.int .i64 r3,.int .i64 r4,.int .i64 r5,.int .i64 (-1),.bool false] 73);have HB1:=hid ((HCR.out.trans (hb1.mono HCR.out.size)).alloc (by have:=HCR.out.size;have:=hb1.size;omega) (.cells #[.int .i64 r1,.int .i64 r2,.int .i64 r3,.int .i64 r4,.int .i64 r5,.int .i64 (-1),.bool false] 73));clear hb1)
     go_roundw
     case rel => exact ⟨r5,HR4.out.2.2,rfl,HB1.out,HX1⟩
     case measure => have h9:=HR4.out;simp [intOf];omega
    ·
     rw [e,if_neg (by simp)] at hxi
     have HE:=hid e
     have HR4:=hid (show i < r.to ∧ r.at' ≤ r.to ∧ r.to ≤ ln ∧ r.start = i by rw [HL.out];omega)
     have HXI2:=hid hxi
     have HRU:=hid (fun h => (hrun h).2.1)
     have HK:=hid hk
     clear e hxi h1 h2 h3 h4 hrun hnr hkn hk
     obtain ⟨r1,r2,r3,r4,r5⟩:=r
     simp only at HR4
     obtain ⟨hflen,fa,fcap,rfl,hf⟩:=HFT.out.open
     obtain ⟨fb,fo,rfl,hok,g0,g1,g2,g3,g4,g5⟩:=hf k HK.out
     clear hf
     obtain ⟨f,HF⟩:∃ f,Hid (f = (s.getD m .zero).fields.getD k .zero):=⟨_,rfl⟩
     rw [← HF.out] at hok g0 g1 g2 g3 g4 g5 HRU
     have HOF:=hid (sright_field hs m hm f (by rw [HF.out];exact getD_mem _ _ HK.out))
     obtain ⟨n,HN⟩:∃ n,Hid (n = (s.getD m .zero).fields.length):=⟨_,rfl⟩
     have hkn:k < n:=by rw [HN.out];exact HK.out
     rw [← HN.out] at hflen c1 HFR HFT HC1
     obtain ⟨f1,f2,f3,f4,f5,f6⟩:=f
     simp only at g0 g1 g2 g3 g4 g5 HOF HRU
     obtain ⟨y,HY⟩:∃ y,Hid (y = vval (vrec s d) (decide (d = 0)) (s.getD m .zero).fields l (⟨r1,r2,r3,r4,r5⟩,(k:Int),run,0)):=⟨_,rfl⟩
     have hx2:=HXI2.out
     rw [← HY.out] at hx2
     have HX2:=hid hx2
     clear hx2 HXI2
     have hval:y = if run = true then (r3,(runCount (kwire f3) (part l r4 r5)).2) else
       if f3 = 15 then (if ufirst (part l r4 r5) = (part l r4 r5).length then (0,0) else (r3,7)) else
       if f3 = 17 then (if decide (d = 0) = true then (r3,8) else (r4 + (vrec s d f6.toNat (part l r4 r5)).1,(vrec s d f6.toNat (part l r4 r5)).2)) else (0,0):=by
      rw [HY.out]
      unfold vval
      rw [if_neg (by show ¬ ((k:Int) < 0);omega)]
      simp only [Int.toNat_natCast]
      rw [← HF.out]
     have HVAL:=hid hval
     clear hval
     have HG:=hid (And.intro g0 (And.intro g1 (And.intro g2 (And.intro g3 (And.intro g4 g5)))))
     clear g0 g1 g2 g3 g4 g5
     have hcut:=HV.out.cut HL.out r4 r5 (by have:=HR4.out;omega) (by have:=HR4.out;omega)
     obtain ⟨pa,pcap,hps,-,hpb⟩:=hcut
     have HPB:=hid hpb
     clear hpb
     go_wp2_with (go_at_call 32;refine (ref10_Look_tells HVR.out HFR.out nm i _ _ _ HE.out).mono ?_;rintro e w1 ⟨rfl,hb1⟩;unfold viewV;have HNB:=hid (Blk.new w1 [.int .i64 r1,.int .i64 r2,.int .i64 r3,.int .i64 r4,.int .i64 r5,.int .i64 k,.bool run] 73);have HB1:=hid ((HCR.out.trans (hb1.mono HCR.out.size)).alloc (by have:=HCR.out.size;have:=hb1.size;omega) (.cells #[.int .i64 r1,.int .i64 r2,.int .i64 r3,.int .i64 r4,.int .i64 r5,.int .i64 k,.bool run] 73));clear hb1)
     obtain ⟨W1,HW1⟩:∃ W1,Hid (W1 = w1.alloc (.cells #[.int .i64 r1,.int .i64 r2,.int .i64 r3,.int .i64 r4,.int .i64 r5,.int .i64 k,.bool run] 73)):=⟨_,rfl⟩
     have HV1:Hid (Blk W1 w1.heap.size [.int .i64 r1,.int .i64 r2,.int .i64 r3,.int .i64 r4,.int .i64 r5,.int .i64 k,.bool run] 73):=by rw [HW1.out];exact HNB.out
     have HB2:Hid (Below w.heap.size w W1):=by rw [HW1.out];exact HB1.out
     rw [← HW1.out]
     obtain ⟨vb,HVB⟩:∃ vb,Hid (vb = w1.heap.size):=⟨_,rfl⟩
     rw [← HVB.out] at HV1 ⊢
     clear c0 c1
     have hk1:=below_keeps (HC.out.trans (HB2.out.mono HC.out.size))
     have c1:=hk1 _ _ HC1.out
     have g0:=hk1 _ _ HG.out.1
     have g1:=hk1 _ _ HG.out.2.1
     have g2:=hk1 _ _ HG.out.2.2.1
     have g3:=hk1 _ _ HG.out.2.2.2.1
     have g4:=hk1 _ _ HG.out.2.2.2.2.1
     have g5:=hk1 _ _ HG.out.2.2.2.2.2
     have x5:=HV1.out.cell 5 _ rfl
     have l1:=World.block_lt_of_cell? W1 _ c1
     have l2:=World.block_lt_of_cell? W1 _ g1
     have lv:=HV1.out.lt
     simp only at l1 l2
     clear hk1
     go_region_held3 (fun w' => w'.cell? ⟨sb,so + m * 2 + 1,none⟩ = some (.slice (some ⟨fb,fo,none⟩) n fcap) ∧ w'.cell? ⟨fb,fo + k * 6,none⟩ = some (.string f1) ∧ w'.cell? ⟨fb,fo + k * 6 + 1,none⟩ = some (.int .i64 f2) ∧ w'.cell? ⟨fb,fo + k * 6 + 2,none⟩ = some (.int .i64 f3) ∧ w'.cell? ⟨fb,fo + k * 6 + 3,none⟩ = some (.bool f4) ∧ w'.cell? ⟨fb,fo + k * 6 + 4,none⟩ = some (.bool f5) ∧ w'.cell? ⟨fb,fo + k * 6 + 5,none⟩ = some (.int .i64 f6) ∧ w'.cell? ⟨vb,5,none⟩ = some (.int .i64 k)) (first | (with_reducible exact ⟨c1,g0,g1,g2,g3,g4,g5,x5⟩) | go_keep) (fail)
     have HF2:=hid (Blk.new W1 [.string f1,.int .i64 f2,.int .i64 f3,.bool f4,.bool f5,.int .i64 f6] 48)
     obtain ⟨W2,HW2⟩:∃ W2,Hid (W2 = (W1.alloc (.cells #[.string f1,.int .i64 f2,.int .i64 f3,.bool f4,.bool f5,.int .i64 f6] 48)).drew):=⟨_,rfl⟩
     have HB3:Hid (Below W1.heap.size W1 W2):=by rw [HW2.out];exact ((Below.refl _ _).alloc (Nat.le_refl _) _).drew
     have HF3:Hid (Blk W2 W1.heap.size [.string f1,.int .i64 f2,.int .i64 f3,.bool f4,.bool f5,.int .i64 f6] 48):=by rw [HW2.out];exact HF2.out
     have HV2:=hid (HV1.out.below HB3.out)
     have HB4:=hid (HB2.out.trans (HB3.out.mono HB2.out.size))
     have HBP:Hid (Bytes W2 (.slice pa (r5 - r4) pcap) (part l r4 r5)):=HPB.out.keep (below_keeps (HC.out.trans (HB4.out.mono HC.out.size)))
     have HPL:Hid ((part l r4 r5).length = r5 - r4):=part_len l r4 r5 HR4.out.2.1 (by have:=HL.out;have:=HR4.out;omega)
     rw [← HW2.out]
     clear HF2 HW2 HB3 c1 g0 g1 g2 g3 g4 g5 x5 l1 l2 lv HV1 HW1
     obtain ⟨fx,HFX⟩:∃ fx,Hid (fx = W1.heap.size):=⟨_,rfl⟩
     rw [← HFX.out] at HF3 ⊢
     have x6:=HV2.out.cell 6 _ rfl
     have x3:=HV2.out.cell 3 _ rfl
     have x4:=HV2.out.cell 4 _ rfl
     have y2:=HF3.out.cell 2 _ rfl
     have y5:=HF3.out.cell 5 _ rfl
     have hHR:i < r5 ∧ r4 ≤ r5 ∧ r5 ≤ ln ∧ r3 = i:=HR4.out
     obtain ⟨hi5,h45,h5n,rfl⟩:=hHR
     cases run with
     | true =>
      obtain rfl:y = (r3,(runCount (kwire f3) (part l r4 r5)).2):=by rw [HVAL.out,if_pos rfl]
      obtain ⟨c,HCC⟩:∃ c,Hid (c = (runCount (kwire f3) (part l r4 r5)).2):=⟨_,rfl⟩
      have hen:=ref09_Ends HBP.out (by rw [HPL.out];omega) f3 (HRU.out rfl)
      rw [← HCC.out] at hen HX2
      have HEN:=hid hen
      clear hen
      by_cases hc:c = 0
      ·
       subst hc
       have HX3:Hid (x = vfrom s d m l r5):=by rw [Hid,HX2.out,if_neg (by simp)]
       go_wp2_with (go_at_call 33;refine HEN.out.mono ?_;rintro e w3 ⟨⟨o,rfl⟩,hb3⟩;have HB5:=hid (HB4.out.trans (hb3.mono HB4.out.size));have z4:=(HV2.out.below hb3).cell 4 _ rfl;clear hb3)
       go_roundw
       case rel => exact ⟨r5,h5n,rfl,HB5.out,HX3⟩
       case measure => simp [intOf];omega
      ·
       obtain rfl:x = (r3,c):=by rw [HX2.out,if_pos hc]
       have ey:((c:Int) != 0) = true:=by simp;omega
       have HYN:=hid hc
       clear hc
       go_wp2_with (go_at_call 33;refine HEN.out.mono ?_;rintro e w3 ⟨⟨o,rfl⟩,hb3⟩;have HB5:=hid (HB4.out.trans (hb3.mono HB4.out.size));clear hb3)
       go_ret2
       refine ⟨ret2 (int_eq (k:=.i64) (a:=(r3:Int)) ?_) rfl,HB5.out⟩
       first | rfl | (rw [if_neg HYN.out])
     | false =>
      by_cases h15:f3 = 15
      ·
       subst h15
       by_cases hu:ufirst (part l r4 r5) = (part l r4 r5).length
       ·
        obtain rfl:y = (0,0):=by rw [HVAL.out,if_neg (by decide),if_pos rfl,if_pos hu]
        have HX3:Hid (x = vfrom s d m l r5):=by rw [Hid,HX2.out,if_neg (by simp)]
        have HU:Hid (decide (ufirst (part l r4 r5) = (part l r4 r5).length) = true):=decide_eq_true hu
        clear hu
        go_wp2_with (go_at_call 34;refine (ref04_Right HBP.out).mono ?_;rintro e w3 ⟨rfl,hb3⟩;rw [HU.out];have HB5:=hid (HB4.out.trans (hb3.mono HB4.out.size));have z4:=(HV2.out.below hb3).cell 4 _ rfl;have z2:=(HF3.out.below hb3).cell 2 _ rfl;clear hb3)
        go_roundw
        case rel => exact ⟨r5,h5n,rfl,HB5.out,HX3⟩
        case measure => simp [intOf];omega
       ·
        obtain rfl:y = (r3,7):=by rw [HVAL.out,if_neg (by decide),if_pos rfl,if_neg hu]
        obtain rfl:x = (r3,7):=by rw [HX2.out,if_pos (by simp)]
        have HU:Hid (decide (ufirst (part l r4 r5) = (part l r4 r5).length) = false):=decide_eq_false hu
        clear hu
        go_wp2_with (go_at_call 34;refine (ref04_Right HBP.out).mono ?_;rintro e w3 ⟨rfl,hb3⟩;rw [HU.out];have HB5:=hid (HB4.out.trans (hb3.mono HB4.out.size));clear hb3)
        go_ret2
        exact ⟨ret2 (int_eq (k:=.i64) (a:=(r3:Int)) (by simp)) rfl,HB5.out⟩
      ·
       have e15:(f3 == 15) = false:=by simpa using h15
       by_cases h17:f3 = 17
       ·
        subst h17
        by_cases h0:d = 0
        ·
         subst h0
         obtain rfl:y = (r3,8):=by rw [HVAL.out,if_neg (by decide),if_neg (by decide),if_pos rfl,if_pos (by decide)]
         obtain rfl:x = (r3,8):=by rw [HX2.out,if_pos (by simp)]
         go_wp2
         go_ret2
         exact ⟨ret2 (int_eq (k:=.i64) (a:=(r3:Int)) (by simp)) rfl,HB4.out⟩
        ·
         obtain ⟨d',HD⟩:∃ d',Hid (d = d' + 1):=⟨d - 1,by show d = d - 1 + 1;omega⟩
         have hM:FirstC w0 (.slice (some ⟨sb,so,none⟩) sn scap) s d':=by have:=HRE.out h0;rwa [show d - 1 = d' by have:=HD.out;omega] at this
         obtain ⟨o,rfl⟩:∃ o:Nat,f6 = o:=⟨f6.toNat,by have:=(HOF.out.2.1 rfl).1;omega⟩
         have hon:o < s.length:=by have:=(HOF.out.2.1 rfl).2;omega
         obtain rfl:y = (r4 + (vmsg s d' o (part l r4 r5)).1,(vmsg s d' o (part l r4 r5)).2):=by
          rw [HVAL.out,if_neg (by decide),if_neg (by decide),if_pos rfl,if_neg (by simpa using h0),HD.out];rfl
         have HM:=hid (fun zd h1 => hM o zd W2 _ (part l r4 r5) h1 hon (HC.out.trans (HB4.out.mono HC.out.size)) HPB.out (by rw [HPL.out];omega))
         obtain ⟨z,HZZ⟩:∃ z:Nat,Hid (z = if (vmsg s d' o (part l r4 r5)).2 = 0 then 0 else (vmsg s d' o (part l r4 r5)).1):=⟨_,rfl⟩
         obtain ⟨q1,q2,HQ⟩:∃ q1 q2,Hid (vmsg s d' o (part l r4 r5) = (q1,q2)):=⟨_,_,rfl⟩
         rw [← HZZ.out] at HM
         rw [HQ.out] at HM HX2 HZZ
         clear hM h0
         have ed:((d:Int) == 0) = false:=by have:=HD.out;simp;omega
         have w1:IntKind.i64.wrap ((d:Int) - 1) = d - 1:=IntWalk.i64_in _ (by omega)
         by_cases hq:q2 = 0
         ·
          subst hq
          have HX3:Hid (x = vfrom s d m l r5):=by rw [Hid,HX2.out,if_neg (by simp)]
          go_wp2_with fail
          refine (HM.out _ (by have:=HD.out;omega)).mono ?_
          rintro e w3 ⟨rfl,hb3⟩
          have HB5:=hid (HB4.out.trans (hb3.mono HB4.out.size))
          have z4:=(HV2.out.below hb3).cell 4 _ rfl
          clear hb3
          go_wp2
          go_roundw
          case rel => exact ⟨r5,h5n,rfl,HB5.out,HX3⟩
          case measure => simp [intOf];omega
         ·
          obtain rfl:x = (r4 + q1,q2):=by rw [HX2.out,if_pos hq]
          obtain rfl:z = q1:=by rw [HZZ.out,if_neg hq]
          have ey:((q2:Int) != 0) = true:=by simp;omega
          have HYN:=hid hq
          clear hq
          have w2:IntKind.i64.wrap ((r4:Int) + (z:Int)) = r4 + z:=by
           have h6:=vmsg_place s d' o (part l r4 r5)
           rw [HQ.out,HPL.out] at h6
           simp only at h6
           exact IntWalk.i64_in _ (by omega)
          go_wp2_with fail
          refine (HM.out _ (by have:=HD.out;omega)).mono ?_
          rintro e w3 ⟨rfl,hb3⟩
          have HB5:=hid (HB4.out.trans (hb3.mono HB4.out.size))
          have z3:=(HV2.out.below hb3).cell 3 _ rfl
          clear hb3
          go_wp2
          go_ret2
          refine ⟨ret2 (int_eq (k:=.i64) (a:=(r4:Int) + z) ?_) rfl,HB5.out⟩
          first | rfl | (rw [if_neg HYN.out];simp)
       ·
        have e17:(f3 == 17) = false:=by simpa using h17
        obtain rfl:y = (0,0):=by rw [HVAL.out,if_neg (by decide),if_neg h15,if_neg h17]
        have HX3:Hid (x = vfrom s d m l r5):=by rw [Hid,HX2.out,if_neg (by simp)]
        go_wp2
        go_roundw
        case rel => exact ⟨r5,h5n,rfl,HB4.out,HX3⟩
        case measure => simp [intOf];omega
  ·
   obtain rfl:i = ln:=by omega
   obtain rfl:x = (0,0):=by rw [HXI.out,vfrom_at,if_pos (by rw [HL.out];exact Nat.le_refl _)]
   go_wp2
   go_ret2
   exact ⟨ret2 (int_eq (k:=.i64) (a:=0) (by simp)) rfl,HCR.out⟩
theorem ref11_First {w0:World} {sv:Value} {s:List Mes} (hS:SchemaAt w0 sv s) (hs:sright s = true):∀ d,d ≤ 1000 → FirstC w0 sv s d
 | 0,h => ref11_First_step hS hs 0 h (fun h => absurd rfl h)
 | d + 1,h => ref11_First_step hS hs (d + 1) h (fun _ => ref11_First hS hs d (by omega))
set_option maxRecDepth 100000 in
set_option maxHeartbeats 4000000 in
theorem ref11_Check {w:World} {vs vb:Value} {s:List Mes} {l:List UInt8} (hS:SchemaAt w vs s) (hb:Bytes w vb l) (hl:l.length ≤ 1099511627776) (root d:Int) :
  Calls Tryz.prog 9 #[vs,.int .i64 root,vb,.int .i64 d] w fun e w' => e = .returned (.tuple #[.int .i64 (vcheck s root l d).1,.int .i64 (vcheck s root l d).2]) ∧ Below w.heap.size w w':=by
 have HA:=hid (ref11_Args hS root d)
 rcases args_cases s root d with h | h | h
 ·
  obtain ⟨g1,g2,g3,g4,g5⟩:=args_ok h
  obtain ⟨m,rfl⟩:∃ m:Nat,root = m:=⟨root.toNat,by omega⟩
  obtain ⟨k,rfl⟩:∃ k:Nat,d = k:=⟨d.toNat,by omega⟩
  have hx:vcheck s m l k = (if (vmsg s k m l).2 = 0 then 0 else (vmsg s k m l).1,(vmsg s k m l).2):=by
   unfold vcheck
   rw [if_neg (by rw [h];decide)];rfl
  rw [hx]
  have HF:=hid (fun w1 (hb1:Below w.heap.size w w1) => ref11_First hS g1 k (by omega) m k w1 vb l rfl (by omega) hb1 hb hl)
  obtain ⟨z,HZ⟩:∃ z:Nat,Hid (z = if (vmsg s k m l).2 = 0 then 0 else (vmsg s k m l).1):=⟨_,rfl⟩
  rw [← HZ.out] at HF ⊢
  rw [h] at HA
  clear hx h
  obtain ⟨hslen,sa,scap,rfl,-⟩:=hS.open
  obtain ⟨hbl,va,vcap,rfl,-,-,-,-⟩:=hb.open
  clear g3
  go_enter Tryz.func9,Tryz.ntmps9
  go_wp2_with (first | (go_at_call 18;refine HA.out.mono ?_;rintro e w1 ⟨rfl,hb1⟩) | (go_at_call 19;refine (HF.out _ (by assumption)).mono ?_;rintro e w2 ⟨rfl,hb2⟩))
  go_ret2
  exact ⟨rfl,hb1.trans (hb2.mono hb1.size)⟩
 all_goals
  have hx:vcheck s root l d = (0,argsCode s root d):=by
   unfold vcheck
   rw [if_pos (by rw [h];decide)]
  rw [hx,h]
  rw [h] at HA
  clear hx
  go_enter Tryz.func9,Tryz.ntmps9
  go_wp2_with (go_at_call 18;refine HA.out.mono ?_;rintro e w1 ⟨rfl,hb1⟩)
  go_ret2
  exact ⟨rfl,hb1⟩
end Go.Proofs.YtphkmpnahnakaaaGreat
