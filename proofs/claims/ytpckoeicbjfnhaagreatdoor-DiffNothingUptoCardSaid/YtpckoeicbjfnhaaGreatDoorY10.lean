/- Parts of a proof: texts of the author, merged. No condition of their own. -/
import Derived.Test.YtpckoeicbjfnhaaGreatDoorY01
import Derived.Test.YtpckoeicbjfnhaaGreatDoorY06
import Derived.Test.YtpckoeicbjfnhaaGreatDoorY08
import Derived.Test.YtpckoeicbjfnhaaGreatDoorY09
import Derived.Deep.RegionWith
import Derived.BigRegion
import Derived.StillTailTactics
import Derived.Deep.RegionHeld3
import Derived.IntWalk
namespace Go.Proofs.YtpckoeicbjfnhaaGreatDoor
set_option maxRecDepth 100000
set_option maxHeartbeats 16000000
section
open Go.RowKit
end
section
open Go.RowKit
end
section
open Go.RowKit
theorem zfn {α:Type}(l:List α)(z:α){k:Nat}(hk:k<l.length):l.getD k z∈l:=by
 have:l.getD k z=l[k]:=by simp[List.getD,hk]
 rw[this];exact List.getElem_mem hk
theorem zl2 {w w1 w2:World}(h:Below w.heap.size w w1){r:Option Nat}(hg:w1.grownBy w2 r):w.grownBy w2 r:=
 ⟨hg.os.trans h.os,hg.tape.trans h.tape,hg.output.trans h.output,Nat.le_trans h.size hg.size,fun k hk hr=>(hg.block k (Nat.lt_of_lt_of_le hk h.size) hr).trans (h.block k hk)⟩
structure Chk (w0:World)(cb:Nat)(sv:Value)(w:World):Prop where
 le:w0.heap.size≤cb
 below:Below w0.heap.size w0 w
 blk:∃ dd:Int,Blk w cb [sv,.int .i64 dd] 206
theorem Chk.later {w0:World}{cb:Nat}{sv:Value}{w w':World}(h:Chk w0 cb sv w)(hb:Below w.heap.size w w'):Chk w0 cb sv w':=
 ⟨h.le,h.below.trans (hb.mono h.below.size),let ⟨dd,hd⟩:=h.blk;⟨dd,hd.below hb⟩⟩
def MsgC (w0:World)(cb:Nat)(sv:Value)(s:List Mes)(d:Nat):Prop:=
 ∀ (m depth fr:Nat) (zf zd zm:Int) (w:World) (v:Value) (l:List UInt8),zf=fr→zd=depth→zm=depth+d→m<s.length→Chk w0 cb sv w→zal w0 v l→fr+l.length≤140737488355328→depth+d≤1000 →
  Calls Tryz.prog 122 #[.pointer (some ⟨cb,0,none⟩),.int .i64 m,v,.int .i64 zf,.int .i64 zd,.int .i64 zm] w fun e w' =>
   e= .returned (.tuple #[.int .i64 (if (zdb s d m l).2=0 then 0 else fr+(zdb s d m l).1:Nat),.int .u8 (zdb s d m l).2])∧Chk w0 cb sv w'∧w.grownBy w' (some cb)
def ValP (w0:World)(cb:Nat)(sv:Value)(fr:Nat)(x:Nat × Nat)(w:World)(e:Ending)(w':World):Prop:=
 (∃ p:Nat,e= .returned (.tuple #[.int .i64 p,.int .u8 x.2])∧(x.2≠0→p=fr+x.1))∧Chk w0 cb sv w'∧w.grownBy w' (some cb)
theorem zf0 {w0 w:World}{cb:Nat}{sv v:Value}(m depth fr:Nat)(r:Rec)(hC:Chk w0 cb sv w)(most:Int) :
  Calls Tryz.prog 176 #[.pointer (some ⟨cb,0,none⟩),.int .i64 m,zc4 r (-1) false,v,.int .i64 fr,.int .i64 depth,.int .i64 most] w
   (ValP w0 cb sv fr (0,0) w):=by
 go_enter Tryz.func176,Tryz.ntmps176
 unfold zc4
 go_wp2
 go_ret2
 refine⟨⟨0,rfl,fun h=>absurd rfl h⟩,hC.later ((Below.refl _ _).alloc (Nat.le_refl _) _),(World.grownBy_alloc _ _ _)⟩
theorem zgZ {w0 w:World}{cb:Nat}{sv v:Value}{s:List Mes}(hS:zap w0 sv s)(hs:zaw s=true)(d m depth fr:Nat)(hm:m<s.length){l:List UInt8}(hv:zal w0 v l)
  (hl:fr+l.length≤140737488355328) (hd:depth+d≤1000) (hrec:d≠0→MsgC w0 cb sv s (d - 1)) (r:Rec) (h1:r.start<r.at') (h2:r.at'≤r.to) (h3:r.to≤l.length)
  (k:Nat) (hk:k<(s.getD m .zero).fields.length) (run:Bool) (hrun:run=true→zac ((s.getD m .zero).fields.getD k .zero).kind=true) (hC:Chk w0 cb sv w) :
  Calls Tryz.prog 176 #[.pointer (some ⟨cb,0,none⟩),.int .i64 m,zc4 r k run,v,.int .i64 fr,.int .i64 depth,.int .i64 ((depth:Int)+(d:Int))] w
   (ValP w0 cb sv fr (zgW (zlZ s d) (decide (d=0)) (s.getD m .zero).fields l (r,(k:Int),run,0)) w):=by
 obtain⟨dd,hblk⟩:=hC.blk
 obtain⟨hslen,sa,scap,rfl,hat⟩:=hS.open
 obtain⟨sb,so,fv,rfl,hnm,c0,c1,hfat⟩:=hat m hm
 clear hat
 obtain⟨hflen,fa,fcap,rfl,hf⟩:=hfat.open
 obtain⟨fb,fo,rfl,hok,g0,g1,g2,g3,g4,g5⟩:=hf k hk
 clear hf
 obtain⟨f,HF⟩:∃ f,Hid (f=(s.getD m .zero).fields.getD k .zero):=⟨_,rfl⟩
 rw[←HF.out] at hok g0 g1 g2 g3 g4 g5 hrun
 have hof:=zco hs m hm f (by rw[HF.out];exact zfn _ _ hk)
 obtain⟨n,HN⟩:∃ n,Hid (n=(s.getD m .zero).fields.length):=⟨_,rfl⟩
 rw[←HN.out] at hk hflen c1
 obtain⟨sn,HSN⟩:∃ sn,Hid (sn=s.length):=⟨_,rfl⟩
 rw[←HSN.out] at hslen hm hblk
 obtain⟨hvl,va,vcap,rfl,-,-,-,-⟩:=hv.open
 obtain⟨ln,HL⟩:∃ ln,Hid (ln=l.length):=⟨_,rfl⟩
 rw[←HL.out] at hv hl h3 hvl ⊢
 obtain⟨pa,pcap,hps,-,hpb⟩:=hv.cut HL.out r.at' r.to h2 h3
 obtain⟨f1,f2,f3,f4,f5,f6⟩:=f
 simp only at g0 g1 g2 g3 g4 g5 hof hrun
 have hk0:=zaa hC.below
 replace c1:=hk0 _ _ c1
 replace g0:=hk0 _ _ g0
 replace g1:=hk0 _ _ g1
 replace g2:=hk0 _ _ g2
 replace g3:=hk0 _ _ g3
 replace g4:=hk0 _ _ g4
 replace g5:=hk0 _ _ g5
 clear hk0 c0
 have l1:=World.block_lt_of_cell? w _ c1
 have l2:=World.block_lt_of_cell? w _ g1
 have k0:=hblk.cell 0 _ rfl
 have lb:=hblk.lt
 simp only at l1 l2
 obtain⟨r1,r2,r3,r4,r5⟩:=r
 simp only at h1 h2 h3 hps hpb
 have hval:zgW (zlZ s d) (decide (d=0)) (s.getD m .zero).fields l (⟨r1,r2,r3,r4,r5⟩,(k:Int),run,0) =
   if run=true then (r3,(zaz (zas f3) (zbx l r4 r5)).2) else
   if f3=15 then (if zbw (zbx l r4 r5)=(zbx l r4 r5).length then (0,0) else (r3,7)) else
   if f3=17 then (if decide (d=0)=true then (r3,8) else (r4+(zlZ s d f6.toNat (zbx l r4 r5)).1,(zlZ s d f6.toNat (zbx l r4 r5)).2)) else (0,0):=by
  unfold zgW
  rw[if_neg (by show ¬ ((k:Int)<0);omega)]
  simp only[Int.toNat_natCast]
  rw[←HF.out]
 obtain⟨x,HX⟩:∃ x,Hid (x=zgW (zlZ s d) (decide (d=0)) (s.getD m .zero).fields l (⟨r1,r2,r3,r4,r5⟩,(k:Int),run,0)):=⟨_,rfl⟩
 rw[←HX.out] at hval ⊢
 have HVAL:=hid hval
 clear hval HX
 unfold zc4
 go_enter Tryz.func176,Tryz.ntmps176
 go_wp2
 have HV:=hid (Blk.new w [.int .i64 r1,.int .i64 r2,.int .i64 r3,.int .i64 r4,.int .i64 r5,.int .i64 k,.bool run] 212)
 obtain⟨W1,HW1⟩:∃ W1,Hid (W1=w.alloc (.cells #[.int .i64 r1,.int .i64 r2,.int .i64 r3,.int .i64 r4,.int .i64 r5,.int .i64 k,.bool run] 212)):=⟨_,rfl⟩
 have HB1:Hid (Below w.heap.size w W1):=by rw[HW1.out];exact (Below.refl _ _).alloc (Nat.le_refl _) _
 have hk1:=zaa HB1.out
 have HV':Hid (Blk W1 w.heap.size [.int .i64 r1,.int .i64 r2,.int .i64 r3,.int .i64 r4,.int .i64 r5,.int .i64 k,.bool run] 212):=by rw[HW1.out];exact HV.out
 clear HV
 replace c1:=hk1 _ _ c1
 replace g0:=hk1 _ _ g0
 replace g1:=hk1 _ _ g1
 replace g2:=hk1 _ _ g2
 replace g3:=hk1 _ _ g3
 replace g4:=hk1 _ _ g4
 replace g5:=hk1 _ _ g5
 replace k0:=hk1 _ _ k0
 have hz1:W1.heap.size=w.heap.size+1:=by rw[HW1.out];simp
 rw[←HW1.out]
 obtain⟨vb,HVB⟩:∃ vb,Hid (vb=w.heap.size):=⟨_,rfl⟩
 rw[←HVB.out] at HV' hz1 l1 l2 lb ⊢
 have HZ:=hid hz1
 clear hz1 hk1
 have x2:=HV'.out.cell 2 _ rfl
 have x3:=HV'.out.cell 3 _ rfl
 have x4:=HV'.out.cell 4 _ rfl
 have x5:=HV'.out.cell 5 _ rfl
 have x6:=HV'.out.cell 6 _ rfl
 have l1':sb<W1.heap.size:=by rw[HZ.out];omega
 have l2':fb<W1.heap.size:=by rw[HZ.out];omega
 have lb':cb<W1.heap.size:=by rw[HZ.out];omega
 have lv':vb<W1.heap.size:=by rw[HZ.out];omega
 have w1:IntKind.i64.wrap ((fr:Int)+(r3:Int))=fr+r3:=IntWalk.i64_in _ (by omega)
 clear HVB
 go_region_held3 (fun w'=>w'.cell? ⟨cb,0,none⟩=some (.slice (some ⟨sb,so,none⟩) sn scap)∧w'.cell? ⟨sb,so+m*2+1,none⟩=some (.slice (some ⟨fb,fo,none⟩) n fcap)∧w'.cell? ⟨fb,fo+k*6,none⟩=some (.string f1)∧w'.cell? ⟨fb,fo+k*6+1,none⟩=some (.int .i64 f2)∧w'.cell? ⟨fb,fo+k*6+2,none⟩=some (.int .i64 f3)∧w'.cell? ⟨fb,fo+k*6+3,none⟩=some (.bool f4)∧w'.cell? ⟨fb,fo+k*6+4,none⟩=some (.bool f5)∧w'.cell? ⟨fb,fo+k*6+5,none⟩=some (.int .i64 f6)∧w'.cell? ⟨vb,2,none⟩=some (.int .i64 r3)∧w'.cell? ⟨vb,3,none⟩=some (.int .i64 r4)∧w'.cell? ⟨vb,4,none⟩=some (.int .i64 r5)∧w'.cell? ⟨vb,5,none⟩=some (.int .i64 k)) (first|(with_reducible exact⟨k0,c1,g0,g1,g2,g3,g4,g5,x2,x3,x4,x5⟩)|go_keep) (fail)
 obtain⟨W2,HW2⟩:∃ W2,Hid (W2=(W1.alloc (.cells #[.string f1,.int .i64 f2,.int .i64 f3,.bool f4,.bool f5,.int .i64 f6] 73)).drew):=⟨_,rfl⟩
 have HF2:=hid (Blk.new W1 [.string f1,.int .i64 f2,.int .i64 f3,.bool f4,.bool f5,.int .i64 f6] 73)
 have HB2:Hid (Below W1.heap.size W1 W2):=by rw[HW2.out];exact ((Below.refl _ _).alloc (Nat.le_refl _) _).drew
 have HF3:Hid (Blk W2 W1.heap.size [.string f1,.int .i64 f2,.int .i64 f3,.bool f4,.bool f5,.int .i64 f6] 73):=by rw[HW2.out];exact HF2.out
 have HV2:Hid (Blk W2 vb [.int .i64 r1,.int .i64 r2,.int .i64 r3,.int .i64 r4,.int .i64 r5,.int .i64 k,.bool run] 212):=HV'.out.below HB2.out
 have HC2:=hid (hC.later (HB1.out.trans (HB2.out.mono HB1.out.size)))
 have HB3:=hid (HB1.out.trans (HB2.out.mono HB1.out.size))
 have HBP:Hid (zal W2 (.slice pa (r5 - r4) pcap) (zbx l r4 r5)):=hpb.keep (zaa HC2.out.below)
 have HPB:=hid hpb
 have HPL:Hid ((zbx l r4 r5).length=r5 - r4):=zol l r4 r5 h2 (by have:=HL.out;omega)
 rw[←HW2.out]
 clear HF2 HW2 HB2 hpb k0 c1 g0 g1 g2 g3 g4 g5 x2 x3 x4 x5 x6 l1 l2 lb l1' l2' lb' lv' hv hblk HV'
 obtain⟨fx,HFX⟩:∃ fx,Hid (fx=W1.heap.size):=⟨_,rfl⟩
 rw[←HFX.out] at HF3 ⊢
 have x6:=HV2.out.cell 6 _ rfl
 have y2:=HF3.out.cell 2 _ rfl
 have HR:=hid hrun
 have HOF:=hid hof
 clear hrun hof
 cases run with
 | true =>
  obtain rfl:x=(r3,(zaz (zas f3) (zbx l r4 r5)).2):=by rw[HVAL.out,if_pos rfl]
  go_wp2_with (go_at_call 216;refine (zqF HBP.out f3 (HR.out rfl)).mono ?_;rintro e w3 ⟨rfl,hb3⟩)
  go_ret2
  exact⟨⟨fr+r3,by simp,fun _=>rfl⟩,HC2.out.later hb3,zbd (HB3.out.trans (hb3.mono HB3.out.size)) _⟩
 | false =>
  by_cases h15:f3=15
  ·
   subst h15
   by_cases hu:zbw (zbx l r4 r5)=(zbx l r4 r5).length
   ·
    obtain rfl:x=(0,0):=by rw[HVAL.out,if_neg (by decide),if_pos rfl,if_pos hu]
    have HU:Hid (decide (zbw (zbx l r4 r5)=(zbx l r4 r5).length)=true):=decide_eq_true hu
    clear hu
    go_wp2_with fail
    refine (zin HBP.out).mono ?_
    rintro e w3 ⟨rfl,rfl⟩
    rw[HU.out]
    go_wp2
    go_ret2
    exact⟨⟨0,rfl,fun h=>absurd rfl h⟩,HC2.out,zbd HB3.out _⟩
   ·
    obtain rfl:x=(r3,7):=by rw[HVAL.out,if_neg (by decide),if_pos rfl,if_neg hu]
    have HU:Hid (decide (zbw (zbx l r4 r5)=(zbx l r4 r5).length)=false):=decide_eq_false hu
    clear hu
    go_wp2_with fail
    refine (zin HBP.out).mono ?_
    rintro e w3 ⟨rfl,rfl⟩
    rw[HU.out]
    go_wp2
    go_ret2
    exact⟨⟨fr+r3,by simp,fun _=>rfl⟩,HC2.out,zbd HB3.out _⟩
  ·
   have e15:(f3 == 15)=false:=by simpa using h15
   by_cases h17:f3=17
   ·
    subst h17
    by_cases h0:d=0
    ·
     subst h0
     obtain rfl:x=(r3,8):=by rw[HVAL.out,if_neg (by decide),if_neg (by decide),if_pos rfl,if_pos (by decide)]
     go_wp2
     go_ret2
     exact⟨⟨fr+r3,by simp,fun _=>rfl⟩,HC2.out,zbd HB3.out _⟩
    ·
     obtain⟨d',rfl⟩:∃ d',d=d'+1:=⟨d - 1,by omega⟩
     have hM:MsgC w0 cb _ s d':=hrec (by omega)
     obtain⟨o,rfl⟩:∃ o:Nat,f6=o:=⟨f6.toNat,by have:=(HOF.out.2.1 rfl).1;omega⟩
     have hon:o<s.length:=by have:=(HOF.out.2.1 rfl).2;omega
     obtain rfl:x=(r4+(zdb s d' o (zbx l r4 r5)).1,(zdb s d' o (zbx l r4 r5)).2):=by
      rw[HVAL.out,if_neg (by decide),if_neg (by decide),if_pos rfl,if_neg (by simp)];rfl
     have HM:=hid (fun zf zd zm h1 h2 h3=>hM o (depth+1) (fr+r4) zf zd zm W2 _ (zbx l r4 r5) h1 h2 h3 hon HC2.out HPB.out (by rw[HPL.out];omega) (by omega))
     obtain⟨z,HZZ⟩:∃ z:Nat,Hid (z=if (zdb s d' o (zbx l r4 r5)).2=0 then 0 else fr+r4+(zdb s d' o (zbx l r4 r5)).1):=⟨_,rfl⟩
     rw[←HZZ.out] at HM
     clear hM hrec h0
     have y5:=HF3.out.cell 5 _ rfl
     have x3:=HV2.out.cell 3 _ rfl
     have w1:IntKind.i64.wrap ((depth:Int)+1)=depth+1:=IntWalk.i64_in _ (by omega)
     have w2:IntKind.i64.wrap ((fr:Int)+(r4:Int))=fr+r4:=IntWalk.i64_in _ (by omega)
     have ed:((depth:Int) == (depth:Int)+((d':Int)+1))=false:=by simp;omega
     go_wp2_with fail
     refine (HM.out _ _ _ (by omega) (by omega) (by omega)).mono ?_
     rintro e w3 ⟨rfl,hC3,hg3⟩
     go_wp2
     go_ret2
     exact⟨⟨z,rfl,fun h=>by rw[HZZ.out,if_neg h,Nat.add_assoc]⟩,hC3,zl2 HB3.out hg3⟩
   ·
    have e17:(f3 == 17)=false:=by simpa using h17
    obtain rfl:x=(0,0):=by rw[HVAL.out,if_neg (by decide),if_neg h15,if_neg h17]
    go_wp2
    go_ret2
    exact⟨⟨0,rfl,fun h=>absurd rfl h⟩,HC2.out,zbd HB3.out _⟩
end
section
open Go.RowKit
def zeJ (x:Nat):List UInt8:=if x<128 then [b8 x] else b8 (128+x % 128)::zeJ (x / 128)
termination_by x
decreasing_by omega
theorem zd9 {x:Nat}(h:x<128):zeJ x=[b8 x]:=by rw[zeJ,if_pos h]
theorem zgq {x:Nat}(h:¬ x<128):zeJ x=b8 (128+x % 128)::zeJ (x / 128):=by rw[zeJ,if_neg h]
theorem zoo:∀ (k x:Nat),x<128 ^ (k+1)→(zeJ x).length≤k+1
 | 0,x,h=>by rw[zd9 (by simpa using h)];simp
 | k+1,x,h=>by
  by_cases h1:x<128
  ·
   rw[zd9 h1];simp
  ·
   rw[zgq h1]
   have:=zoo k (x / 128) (Nat.div_lt_of_lt_mul (by rw[Nat.pow_succ,Nat.mul_comm] at h;exact h))
   simp;omega
theorem ze3 {x:Nat}(h:x<2 ^ 64):(zeJ x).length≤10:=zoo 9 x (Nat.lt_of_lt_of_le h (by decide))
theorem or128 (x:Nat):bits .or .u8 ((x:Int) % 256) 128=((128+x % 128:Nat):Int):=by
 have:∀ c:Fin 256,bits .or .u8 (c.val:Int) 128=((128+c.val % 128:Nat):Int):=by decide +kernel
 rw[show (x:Int) % 256=((x % 256:Nat):Int) by omega,this ⟨x % 256,by omega⟩]
 simp
theorem zg0 {w:World}{v:Value}{l:List UInt8}(h:zal w v l)(hl:l.length≤1099511627776)(x:Nat)(hx:x<2 ^ 64) :
  Calls Tryz.prog 181 #[v,.int .u64 x] w fun e w'=>∃ v',e= .returned v'∧Own w' w.heap.size v' (l++zeJ x)∧Below w.heap.size w w':=by
 have H:=hid h
 have HX:=hid hx
 clear h hx
 obtain⟨hlen,a,cap,rfl,-,-,-,-⟩:=H.out.open
 clear hlen
 go_enter Tryz.func181,Tryz.ntmps181
 go_wp2_with (go_at_call 222;refine (zil H.out).mono ?_;rintro e w1 ⟨v1,rfl,hO,hb1⟩)
 go_loopw [0,1] (fun v0 v1 wr=>∃ (l':List UInt8) (y:Nat),v1= .int .u64 y∧Hid (y<2 ^ 64)∧Hid (l'++zeJ y=l++zeJ x)∧Hid (Own wr w.heap.size v0 l'∧Below w.heap.size w wr)) (fun _ v1 _=>(intOf v1).toNat)
 case atStart=>exact⟨l,x,rfl,HX,rfl,hO,hb1⟩
 case round =>
  obtain⟨l',y,rfl,HY,HE,HO⟩:=hrel
  have HLN:Hid (l'.length+(zeJ y).length≤1099511627776+10):=by
   have h1:=congrArg List.length HE.out
   rw[List.length_append,List.length_append] at h1
   have:=ze3 HX.out
   show _≤_;omega
  by_cases h:y<128
  ·
   have hB:=zgo wr 5 (b8 y) y (by simp[b8];omega)
   obtain⟨v',w',hr,hO',hg,-⟩:=zbh (w:=wr.alloc (.cells #[.int .u8 y] 5)) (World.ownsRow.alloc HO.out.1 _) hB (by have:=HLN.out;simp;omega) (by have:=HO.out.2.size;simp;omega)
   have HR:=hid hr
   have HO2:=hid hO'
   have hg2:=zc7 (w:=wr.alloc (.cells #[.int .u8 y] 5)) (World.ownsRow.alloc HO.out.1 _) (HO.out.2.alloc HO.out.2.size _) hg
   have HG2:=hid hg2
   clear hB hr hO' hg hg2
   go_wp2_with (at_builtin;refine zad rfl _ _ _ rfl _ _ rfl rfl HR.out ?_)
   go_ret
   refine⟨_,rfl,?_,HG2.out⟩
   rw[←HE.out,zd9 h]
   exact HO2.out
  ·
   have hdiv:y / 128<2 ^ 64:=by have:=HY.out;omega
   have hB:=zgo wr 5 (b8 (128+y % 128)) (bits .or .u8 ((y:Int) % 256) 128) (by rw[or128];simp[b8];omega)
   have hly:=HLN.out
   rw[zgq h,List.length_cons] at hly
   obtain⟨v',w',hr,hO',hg,-⟩:=zbh (w:=wr.alloc (.cells #[.int .u8 (bits .or .u8 ((y:Int) % 256) 128)] 5)) (World.ownsRow.alloc HO.out.1 _) hB (by simp;omega) (by have:=HO.out.2.size;simp;omega)
   have HR:=hid hr
   have HO2:=hid hO'
   have hg2:=zc7 (w:=wr.alloc (.cells #[.int .u8 (bits .or .u8 ((y:Int) % 256) 128)] 5)) (World.ownsRow.alloc HO.out.1 _) (HO.out.2.alloc HO.out.2.size _) hg
   have HG2:=hid hg2
   clear hB hr hO' hg hg2 hly
   go_wp2_with (at_builtin;refine zad rfl _ _ _ rfl _ _ rfl rfl HR.out ?_)
   go_roundw
   case rel =>
    refine⟨l'++[b8 (128+y % 128)],y / 128,?_,hdiv,?_,HO2.out,HG2.out⟩
    ·
     go_num
    ·
     rw[Hid,←HE.out,zgq h];simp
   case measure=>simp[intOf];omega
end
section
open Go.RowKit
def s32 (x:Nat):Int:=if x % 4294967296<2147483648 then ((x % 4294967296:Nat):Int) else ((x % 4294967296:Nat):Int) - 4294967296
def w32 (x:Nat):Nat:=if x % 4294967296<2147483648 then x % 4294967296 else x % 4294967296+18446744069414584320
def zaE (k:Int)(x:Nat):Nat:=if k=1∨k=8 then w32 x else if k=7 then (if 0<x then 1 else 0) else if k=3∨k=5∨k=9∨k=10∨k=11 then x % 4294967296 else x
theorem w32_lt (x:Nat):w32 x<2 ^ 64:=by unfold w32;split <;> omega
theorem zdv (k:Int){x:Nat}(h:x<2 ^ 64):zaE k x<2 ^ 64:=by
 unfold zaE
 have:=w32_lt x
 split
 ·
  exact this
 ·
  split
  ·
   split <;> omega
  ·
   split <;> omega
theorem zpb (x:Nat)(w:World) :
  Calls Tryz.prog 191 #[.int .u64 x] w fun e w'=>e= .returned (.int .u32 ((x % 4294967296:Nat):Int))∧w=w':=by
 go_enter Tryz.func191,Tryz.ntmps191
 go_wp2
 go_ret
 exact⟨zfS (zdm (by omega)),rfl⟩
theorem znk (x:Nat)(w:World) :
  Calls Tryz.prog 190 #[.int .u64 x] w fun e w'=>e= .returned (.int .i32 (s32 x))∧w=w':=by
 have h:IntKind.i32.wrap ((x:Int) % 4294967296)=s32 x:=by
  unfold s32
  simp[IntKind.wrap,IntKind.bits,IntKind.signed]
  split <;> split <;> omega
 go_enter Tryz.func190,Tryz.ntmps190
 go_wp2
 go_ret
 exact⟨zfS (zdm (by first|exact h|rw[←h])),rfl⟩
theorem znl (x:Nat)(w:World) :
  Calls Tryz.prog 189 #[.int .i32 (s32 x)] w fun e w'=>e= .returned (.int .u64 (w32 x))∧w=w':=by
 have h:(s32 x) % 18446744073709551616=(w32 x:Int):=by
  unfold s32 w32
  split <;> omega
 have h2:-2147483648≤s32 x∧s32 x<2147483648:=by
  unfold s32
  split <;> omega
 generalize s32 x=z at *
 go_enter Tryz.func189,Tryz.ntmps189
 go_wp2
 go_ret
 exact⟨zfS (zdm (by first|exact h|(rw[←h];omega))),rfl⟩
end
end Go.Proofs.YtpckoeicbjfnhaaGreatDoor
