/- norm.form, norm.Form: the normal form (nform). At most 2^30 bytes. norm.Form: the normal form of valid bytes, or why there is none. At most 2^30 bytes. norm.Same: have two messages one normal form, or why that can't be told. At most 2^30 bytes each. darninglaw24.alive: true. No condition. -/
import Derived.Test.YtpckoeicbjfnhaaGreatDoorY25
import Derived.Test.YtpckoeicbjfnhaaGreatDoorY27
import Derived.Test.YtpckoeicbjfnhaaGreatDoorY28
import Derived.Test.YtpckoeicbjfnhaaGreatDoorY32
import Derived.Test.YtpckoeicbjfnhaaGreatDoorY35
import Derived.Test.YtpckoeicbjfnhaaGreatDoorY37
import Derived.Test.YtpckoeicbjfnhaaGreatDoorY38
import Derived.Test.YtpckoeicbjfnhaaGreatDoorY44
import Derived.Test.YtpckoeicbjfnhaaGreatDoorY45
import Derived.Deep.CutBlock
namespace Go.Proofs.YtpckoeicbjfnhaaGreatDoor
set_option maxRecDepth 100000
set_option maxHeartbeats 16000000
section
open Go.RowKit
theorem zqq {s:List Mes}(hs:zaw s=true){d m:Nat}{l:List UInt8}(hm:m<s.length)(h:(zdb s d m l).2=0)(hl:l.length≤1099511627776)(k:Nat) :
  (((zaq (s.getD m .zero).fields).take k).flatMap fun i=>zbo s d ((s.getD m .zero).fields.getD i.toNat .zero) l (zak (zbA (s.getD m .zero).fields l).1 i)).length≤30*l.length:=by
 have h1:=zcF hs d m l hm h hl
 rw[zhl hs hm,List.length_append] at h1
 have h2:=zcw (fun i=>zbo s d ((s.getD m .zero).fields.getD i.toNat .zero) l (zak (zbA (s.getD m .zero).fields l).1 i)) (zaq (s.getD m .zero).fields) k
 omega
theorem zfQ {s:List Mes}(hs:zaw s=true)(d:Nat)(hrec:∀ d',d=d'+1→zo3 s d'):zo3 s d:=by
 intro w sv bv m l hS hm hb hl hv
 have HRE:=hid hrec
 obtain⟨fs,HFS⟩:∃ fs,Hid (fs=(s.getD m .zero).fields):=⟨_,rfl⟩
 have HM:=hid hm
 have HL:=hid hl
 have HVV:=hid hv
 have HS:=hid hS
 have HB:=hid hb
 have HSR:=hid hs
 obtain⟨-,sa,sc,rfl,hat⟩:=hS.open
 obtain⟨sn,HSN⟩:∃ n,Hid (n=s.length):=⟨_,rfl⟩
 obtain⟨sb,so,fv,hsa,-,c0,c1,hF⟩:=hat m hm
 subst hsa
 rw[←HFS.out] at hF
 rw[←HSN.out] at HS hm ⊢
 obtain⟨nm,HNM⟩:∃ nm,Hid (nm=(s.getD m .zero).name):=⟨_,rfl⟩
 rw[←HNM.out] at c0
 obtain⟨-,va,vcap,rfl,-⟩:=hb.open
 obtain⟨ln,HLN⟩:∃ n,Hid (n=l.length):=⟨_,rfl⟩
 rw[←HLN.out] at HB ⊢
 obtain⟨hfl,fa,fc,rfl,-⟩:=hF.open
 obtain⟨fn,HFN⟩:∃ n,Hid (n=fs.length):=⟨_,rfl⟩
 have HFL:Hid (fs.length≤200):=by rw[Hid,HFS.out];exact zfM hs m (by rw[←HSN.out];exact hm)
 have HFT:=hid hF
 rw[←HFN.out] at HFT c1
 obtain⟨all,HALL⟩:∃ all,Hid (all=(zbA fs l).1):=⟨_,rfl⟩
 have hok:=zk8 hv
 rw[←HFS.out] at hok
 have HG:=hid (zob hb (by omega) hF nm hok.1 (fun x hx=>by
  obtain⟨f1,f2,f3,-⟩:=(hok.2 x hx).facts
  exact⟨by omega,f3⟩))
 have hvo:=hok.2
 rw[←HALL.out] at HG hvo
 have HVO:=hid hvo
 rw[←HFN.out,←HLN.out] at HG
 obtain⟨g,HGG⟩:∃ g:Int→List UInt8,Hid (g=fun i=>zbo s d (fs.getD i.toNat .zero) l (zak all i)):=⟨_,rfl⟩
 have HNF:Hid (zbv s d m l=(zaq fs).flatMap g++zgh l all):=by
  rw[Hid,zhl hs (by rw[←HSN.out];exact hm),HGG.out,HALL.out,HFS.out];rfl
 have HGL:Hid (∀ k,(((zaq fs).take k).flatMap g).length≤32212254720):=fun k=>by
  have h1:=zqq hs (by rw[←HSN.out];exact hm) hv (by omega) k
  rw[HGG.out,HALL.out,HFS.out]
  omega
 obtain⟨Q,HQ⟩:∃ Q:Ending→World→Prop,Hid (Q=fun e w'=>∃ v',e= .returned v'∧Own w' w.heap.size v' (zbv s d m l)∧Below w.heap.size w w'):=⟨_,rfl⟩
 rw[←HQ.out]
 have HEND:Hid (∀ v' w' base,w.heap.size≤base→Own w' base v' ((zaq fs).flatMap g++zgh l all)→Below w.heap.size w w'→Q (.returned v') w'):=by
  intro v' w' base h0 h1 h2
  rw[HQ.out]
  exact⟨v',rfl,by rw[HNF.out];exact h1.mono h0,h2⟩
 have HC01:=hid (And.intro c0 c1)
 have lS:=World.block_lt_of_cell? w _ c0
 have HLS:=hid lS
 clear hrec hv hS hb hs hat hF hfl hok hvo HQ hl
 go_enter Tryz.func55,Tryz.ntmps55
 go_upto_region 2 with (go_at_call 88;refine HG.out.mono ?_;rintro e w1 ⟨r,u,es,rfl,hmi,hown,hun,hb1⟩;obtain⟨ua,un,uc,rfl⟩:=zaS hun)
 obtain⟨W2,HW2⟩:∃ W,Hid (W=w1.alloc (.cells #[.map (some r),.slice ua un uc] 168)):=⟨_,rfl⟩
 obtain⟨P,HP⟩:∃ P,Hid (P=w1.heap.size):=⟨_,rfl⟩
 rw[←HW2.out,←HP.out]
 have hb12:Below w1.heap.size w1 W2:=by rw[HW2.out];exact (Below.refl _ _).alloc (Nat.le_refl _) _
 have hkP:Blk W2 P [.map (some r),.slice ua un uc] 168:=by rw[HW2.out,HP.out];exact Blk.new w1 [.map (some r),.slice ua un uc] _
 have hb2:Below w.heap.size w W2:=hb1.trans (hb12.mono hb1.size)
 have d0:=zaa hb2 _ _ c0
 have d1:=zaa hb2 _ _ c1
 have lS2:sb<W2.heap.size:=Nat.lt_of_lt_of_le lS hb2.size
 have hrl:r<w1.heap.size:=by have:=hmi;unfold zax at this;exact (Array.getElem?_eq_some_iff.1 this).1
 have HMI:=hid (show zax W2 r zcK es from (hb12.block r hrl).trans hmi)
 have HRL:Hid (r<W2.heap.size):=Nat.lt_of_lt_of_le hrl hb12.size
 have HOWN:Hid (∀ n:Int,zlL W2 w.heap.size (atK es n) (zdf all n)):=fun n=>(hown n).below_of hb12
 have HUN:=hid (hun.below_of hb12)
 have HKP:=hid hkP
 have HB2:=hid hb2
 have hSO:=hid (zgB nm (HFT.out.below hb2) (by have:=HFL.out;omega))
 clear c0 c1 lS hmi hown hun hb1 hb12 hkP hb2 hrl
 go_upto_region 3 with fail
 go_wp2_with (go_at_call 89;refine hSO.out.mono ?_;rintro e W3 ⟨oa,oc,rfl,hord,hb3⟩;rw[za5,←HFN.out])
 have HB23:=hid hb3
 have HB3:=hid (HB2.out.trans (hb3.mono HB2.out.size))
 have HORD:=hid hord
 have hfn:fn≤200:=by have:=HFL.out;have:=HFN.out;omega
 clear hb3 hord d0 d1 lS2 hSO
 go_loopw [8,25] (fun v8 v25 wr=>∃ (k:Nat) (ba:Option Addr) (bn bc:Nat),v25= .int .i64 (k:Int)∧v8= .slice ba bn bc∧k≤fn∧Hid (Own wr W3.heap.size (.slice ba bn bc) (((zaq fs).take k).flatMap g)∧Below W3.heap.size W3 wr)) (fun _ v25 _=>fn - (intOf v25).toNat)
 case atStart=>exact⟨0,none,0,0,rfl,rfl,by omega,zfZ _ _,Below.refl _ _⟩
 case round =>
  obtain⟨k,ba,bn,bc,rfl,rfl,hk,HI⟩:=hrel
  have hbr:Below W2.heap.size W2 wr:=HB23.out.trans (HI.out.2.mono HB23.out.size)
  have hb0:Below w.heap.size w wr:=HB2.out.trans (hbr.mono HB2.out.size)
  have hkp:=HKP.out.below hbr
  have HB0:=hid hb0
  have HBR:=hid hbr
  have p0:=hkp.cell 0 _ rfl
  have p1:=hkp.cell 1 _ rfl
  have pl:=hkp.lt
  by_cases hlt:k<fn
  ·
   obtain⟨ord,hoi⟩:∃ x,(zaq fs)[k]?=some x:=⟨_,List.getElem?_eq_getElem (by rw[za5,←HFN.out];exact hlt)⟩
   obtain⟨hr0,hr1⟩:=zaH (List.mem_of_getElem? hoi)
   obtain⟨q,rfl⟩:∃ q:Nat,ord=(q:Int):=⟨ord.toNat,by omega⟩
   have hq:q<fs.length:=by omega
   have HTK:Hid (((zaq fs).take (k+1)).flatMap g=((zaq fs).take k).flatMap g++g (q:Int)):=zfh g hoi
   obtain⟨og,rfl,hog,hrow⟩:∃ g,oa=some ⟨g,0,none⟩∧W2.heap.size≤g∧zcx W3 g (zaq fs):=by
    rcases HORD.out with h|h
    ·
     rw[h] at hoi;simp at hoi
    ·
     exact h
   have o0:wr.cell? ⟨og,k,none⟩=some (.int .i64 (q:Int)):=by
    have h1:=hrow.cell k (by rw[za5,←HFN.out];exact hlt)
    have h2:(zaq fs)[k]'(by rw[za5,←HFN.out];exact hlt)=(q:Int):=by
     have:=List.getElem?_eq_some_iff.1 hoi
     exact this.2
    first
     | (rw[h2] at h1;exact zaa HI.out.2 _ _ h1)
     | (simp only[List.getD,hoi,Option.getD] at h1;exact zaa HI.out.2 _ _ h1)
   obtain⟨f,HF⟩:∃ f,Hid (f=fs.getD q .zero):=⟨_,rfl⟩
   obtain⟨-,fa',fc',hfe,hfat⟩:=(HFT.out.below hb0).open
   rw[←HFN.out] at hfe
   have hfa:fa=fa':=by injection hfe
   subst hfa
   obtain⟨fb,fo,hfb,hok,g0,g1,g2,g3,g4,g5⟩:=hfat q hq
   rw[←HF.out] at hok g0 g1 g2 g3 g4 g5
   subst hfb
   have hqn:q<fn:=by rw[HFN.out];exact hq
   have hixf:=zau Tryz.underlying74 zcY rfl q hqn (a:=some ⟨fb,fo,none⟩) (cap:=fc)
   have c0:=zaa hb0 _ _ HC01.out.1
   have c1:=zaa hb0 _ _ HC01.out.2
   have lS:=Nat.lt_of_lt_of_le HLS.out hb0.size
   obtain⟨W4,HW4⟩:∃ W,Hid (W=wr.alloc (.cells #[.string f.name,.int .i64 f.number,.int .i64 f.kind,.bool f.rep,.bool f.packed,.int .i64 f.of] 73)):=⟨_,rfl⟩
   obtain⟨FB,HFB⟩:∃ b,Hid (b=wr.heap.size):=⟨_,rfl⟩
   have hb4:Below wr.heap.size wr W4:=by rw[HW4.out];exact (Below.refl _ _).alloc (Nat.le_refl _) _
   have hf4:Blk W4 FB [.string f.name,.int .i64 f.number,.int .i64 f.kind,.bool f.rep,.bool f.packed,.int .i64 f.of] 73:=by rw[HW4.out,HFB.out];exact Blk.new wr [.string f.name,.int .i64 f.number,.int .i64 f.kind,.bool f.rep,.bool f.packed,.int .i64 f.of] _
   have hbr4:Below W2.heap.size W2 W4:=hbr.trans (hb4.mono hbr.size)
   have hb04:Below w.heap.size w W4:=hb0.trans (hb4.mono hb0.size)
   have hlk:=zfi ((hbr4.block r HRL.out).trans HMI.out) f.number
   have hmo:=(HOWN.out f.number).below_of hbr4
   have hN:zq0 (s.getD m .zero).fields:=zbs HSR.out m (by rw[←HSN.out];exact hm)
   have hnv:zdf all f.number=zak all (q:Int):=by
    have h1:=zqp hN HVO.out (fun x hx k hk=>zsV (HVO.out x hx) hk) (q:=q) (by rw[←HFS.out];exact hq)
    rw[←HFS.out,←HF.out] at h1
    exact h1
   rw[hnv] at hmo
   obtain⟨ma,mc,hform⟩:=hmo.form
   rw[hform] at hlk hmo
   obtain⟨xs,HXS⟩:∃ xs,Hid (xs=zak all (q:Int)):=⟨_,rfl⟩
   rw[←HXS.out] at hlk hmo
   obtain⟨xn,HXN⟩:∃ n,Hid (n=xs.length):=⟨_,rfl⟩
   rw[←HXN.out] at hlk hmo
   have HGQ:Hid (g (q:Int)=zbo s d f l xs):=by rw[Hid,HGG.out,HF.out,HXS.out];rfl
   have HMO:=hid hmo
   have HO4:=hid (HI.out.1.below_of hb4)
   have HB34:Hid (Below W3.heap.size W3 W4):=HI.out.2.trans (hb4.mono HI.out.2.size)
   have HB04:=hid hb04
   have HBR4:=hid hbr4
   have HF4:=hid hf4
   have e1:=hf4.cell 1 _ rfl
   have el:=hf4.lt
   have pp0:=(hkp.below hb4).cell 0 _ rfl
   have ppl:=(hkp.below hb4).lt
   clear hrow hfat hfe hok hmo hform hN hnv hbr4 hb04 hb4 hf4 hkp hbr hb0 HI hoi hr0 hr1 p0 p1 pl
   go_upto_region 7 with fail
   rw[←HW4.out,←HFB.out]
   clear g0 g1 g2 g3 g4 g5 c0 c1 lS o0 hixf
   go_upto_region 8 with fail
   by_cases hxn:xn=0
   ·
    have hxe:xs=[]:=List.length_eq_zero_iff.1 (by have:=HXN.out;omega)
    have HGE:Hid (((zaq fs).take (k+1)).flatMap g=((zaq fs).take k).flatMap g):=by rw[Hid,HTK.out,HGQ.out,hxe,zkz,List.append_nil]
    subst hxn
    clear hxe e1 el pp0 ppl hlk
    go_wp2_with fail
    go_roundw
    case rel=>exact⟨k+1,_,_,_,by go_num,rfl,by omega,by rw[HGE.out];exact HO4.out,HB34.out⟩
    case measure=>simp[intOf];omega
   ·
    have hxp:(0:Int)<(xn:Int):=by omega
    have hnf:NF s d m f l xs W3.heap.size W4 (.slice (some ⟨sb,so,none⟩) sn sc) (.slice ba bn bc) (.slice va ln vcap) (.slice ma xn mc) (((zaq fs).take k).flatMap g):=by
     have hmL:m<s.length:=by rw[←HSN.out];exact hm
     have hqL:q<(s.getD m .zero).fields.length:=by rw[←HFS.out];exact hq
     have hof:=zfs HSR.out hmL hqL
     rw[←HFS.out,←HF.out] at hof
     have hnum:=of_decide_eq_true (zcl HSR.out m hmL q hqL).2
     rw[←HFS.out,←HF.out] at hnum
     have hrec:=zfr HSR.out hmL HVV.out hqL
     rw[←HFS.out,←HF.out,←HALL.out,←HXS.out] at hrec
     have hsm:=zex (fun x=>decide (x.k=(q:Int))) (zbA fs l).1
     have hal:=zgy fs l
     have hxm:∀ x∈xs,x∈all:=fun x hx=>by rw[HXS.out] at hx;exact (zbS hx).1
     have hsx:zbt xs≤l.length:=by
      have e:xs=(zbA fs l).1.filter fun x=>decide (x.k=(q:Int)):=by rw[HXS.out,HALL.out];rfl
      rw[e];omega
     have hxl:xs.length≤l.length:=by
      have h1:=zk9 fs l
      have e:xs=(zbA fs l).1.filter fun x=>decide (x.k=(q:Int)):=by rw[HXS.out,HALL.out];rfl
      have h2:=List.length_filter_le (fun x:VW=>decide (x.k=(q:Int))) (zbA fs l).1
      rw[e];omega
     exact⟨hof.1,hof.2,⟨hnum.1,hnum.2.1⟩,by rintro rfl;exact hxn HXN.out,hrec,HS.out.below HB04.out,HO4.out,HB34.out.size,HB.out.below HB04.out,zql (zjm HMO.out) (by have:=HL.out;omega),
      fun x hx=>by obtain⟨-,f2,f3,-⟩:=(HVO.out x (hxm x hx)).facts;exact⟨f2,f3⟩,fun x hx=>zlc fs l x (by rw[←HALL.out];exact hxm x hx),hsx,HL.out,by have:=HGL.out k;have:=HL.out;omega⟩
    have hnF:=zqm HSR.out HRE.out hnf
    rw[show f.val= .agg #[.string f.name,.int .i64 f.number,.int .i64 f.kind,.bool f.rep,.bool f.packed,.int .i64 f.of] from rfl] at hnF
    have HNFC:=hid hnF
    have e0:=HF4.out.cell 0 _ rfl
    have e2:=HF4.out.cell 2 _ rfl
    have e3:=HF4.out.cell 3 _ rfl
    have e4:=HF4.out.cell 4 _ rfl
    have e5:=HF4.out.cell 5 _ rfl
    clear hnf hnF hxn hlk pp0 ppl
    go_wp2_with (go_at_call 90;refine HNFC.out.mono ?_;rintro e W5 ⟨v5,rfl,hO5,hb5⟩;obtain⟨a5,n5,c5,rfl⟩:=zaS hO5;have HO5:=hid hO5;have HB5:=hid hb5;clear hO5 hb5)
    go_roundw
    case rel=>exact⟨k+1,_,_,_,by go_num,rfl,by omega,by rw[HTK.out,HGQ.out];exact HO5.out,HB34.out.trans (HB5.out.mono HB34.out.size)⟩
    case measure=>simp[intOf];omega
  ·
   obtain rfl:k=fn:=by omega
   have hO:=HI.out.1
   rw[show (zaq fs).take k=zaq fs from by rw[HFN.out,←za5,List.take_length]] at hO
   have hU:=(HUN.out.below_of hbr)
   have hul:(zgh l all).length≤1073741824:=by
    have h1:=zlM l all
    have h2:=zgy fs l
    rw[←HALL.out] at h2
    have:=HL.out
    omega
   have hol:((zaq fs).flatMap g).length≤32212254720:=by
    have:=HGL.out fs.length
    rwa [←za5,List.take_length] at this
   obtain⟨v6,w6,hr6,hO6,hg6,-⟩:=zbh hO (hU.bytes (by omega)) (by omega) HI.out.2.size
   obtain⟨a6,n6,c6,rfl⟩:=zaS hO6
   have HR6:=hid hr6
   have HE:=hid (HEND.out _ w6 W3.heap.size HB3.out.size hO6 (HB3.out.trans ((HI.out.2.grown hg6 HI.out.2.size fun q e=>(World.ownsRow.lt hO q e).1).mono HB3.out.size)))
   clear hO hU hul hol hr6 hO6 hg6 hkp hbr hb0 p0
   go_wp2_with (at_builtin;refine zad rfl _ _ _ rfl _ _ rfl rfl HR6.out ?_)
   exact HE.out
theorem zm8 {s:List Mes}(hs:zaw s=true):∀ d,zo3 s d
 | 0=>zfQ hs 0 fun _ h=>by cases h
 | d+1=>zfQ hs (d+1) fun d' h=>by
  obtain rfl:d=d':=by omega
  exact zm8 hs d
end
section
open Go.RowKit
theorem zgQ {w:World}{sv bv:Value}{s:List Mes}{l:List UInt8}(hS:zap w sv s)(hb:zal w bv l)(hl:l.length≤1073741824)(root d:Int)(hv:(zaP s root l d).2=0) :
  Calls Tryz.prog 25 #[sv,.int .i64 root,bv,.int .i64 d] w fun e w'=>∃ v',e= .returned (.tuple #[v',.int .u8 0])∧Own w' w.heap.size v' (zbv s d.toNat root.toNat l)∧Below w.heap.size w w':=by
 obtain⟨g1,⟨g2,g3⟩,-,g4⟩:=za7 hv
 have HC:=hid (ziq hS hb root d)
 obtain⟨p,HP⟩:∃ p,Hid (p=(zaP s root l d).1):=⟨_,rfl⟩
 rw[←HP.out,hv] at HC
 obtain⟨r,rfl⟩:∃ r:Nat,root=r:=⟨root.toNat,by omega⟩
 rw[Int.toNat_natCast] at g4 ⊢
 have HF:=hid (fun (W:World) (hW:Below w.heap.size w W)=>zm8 g1 d.toNat W sv bv r l (hS.below hW) (by omega) (hb.below hW) hl g4)
 obtain⟨-,sa,sc,rfl,-⟩:=hS.open
 obtain⟨-,a,c,rfl,-⟩:=hb.open
 obtain⟨sn,HSN⟩:∃ n,Hid (n=s.length):=⟨_,rfl⟩
 obtain⟨n,HN⟩:∃ n,Hid (n=l.length):=⟨_,rfl⟩
 rw[←HSN.out,←HN.out] at HC HF ⊢
 clear hS hb hl hv g1 g2 g3 g4
 obtain⟨Q,HQ⟩:∃ Q:Ending→World→Prop,Hid (Q=fun e w'=>∃ v',e= .returned (.tuple #[v',.int .u8 0])∧Own w' w.heap.size v' (zbv s d.toNat r l)∧Below w.heap.size w w'):=⟨_,rfl⟩
 rw[←HQ.out]
 go_enter Tryz.func25,Tryz.ntmps25
 go_wp2_with (first|(go_at_call 54;refine HC.out.mono ?_;rintro e w1 ⟨rfl,hb1⟩;have HB1:=hid hb1;clear hb1)|(go_at_call 55;refine (HF.out _ HB1.out).mono ?_;rintro e w2 ⟨v2,rfl,hO2,hb2⟩;obtain⟨a2,c2,rfl⟩:=zdT hO2))
 rw[HQ.out]
 exact⟨_,rfl,hO2.mono HB1.out.size,HB1.out.trans (hb2.mono HB1.out.size)⟩
end
section
open Go.RowKit
theorem zr2 {w:World}{sv av bv:Value}{s:List Mes}{a b:List UInt8}(hS:zap w sv s)(ha:zal w av a)(hb:zal w bv b)(hla:a.length≤1073741824)(hlb:b.length≤1073741824)(root d:Int)(hv:(zaP s root a d).2=0)(hv2:(zaP s root b d).2=0) :
  Calls Tryz.prog 24 #[sv,.int .i64 root,av,bv,.int .i64 d] w fun e w'=>e= .returned (.tuple #[.bool (decide (zbv s d.toNat root.toNat a=zbv s d.toNat root.toNat b)),.int .u8 0])∧Below w.heap.size w w':=by
 have HF1:=hid (zgQ hS ha hla root d hv)
 have HF2:=hid (fun (W:World) (hW:Below w.heap.size w W)=>zgQ (hS.below hW) (hb.below hW) hlb root d hv2)
 obtain⟨g1,⟨g2,g3⟩,-,g4⟩:=za7 hv
 obtain⟨-,-,-,g5⟩:=za7 hv2
 have HL1:Hid ((zbv s d.toNat root.toNat a).length≤140737488355328):=by
  have:=zcF g1 d.toNat root.toNat a (by omega) g4 (by omega)
  show _≤_;omega
 have HL2:Hid ((zbv s d.toNat root.toNat b).length≤140737488355328):=by
  have:=zcF g1 d.toNat root.toNat b (by omega) g5 (by omega)
  show _≤_;omega
 obtain⟨-,sa,sc,rfl,-⟩:=hS.open
 obtain⟨-,aa,ac,rfl,-⟩:=ha.open
 obtain⟨-,ba,bc,rfl,-⟩:=hb.open
 obtain⟨sn,HSN⟩:∃ n,Hid (n=s.length):=⟨_,rfl⟩
 obtain⟨an,HAN⟩:∃ n,Hid (n=a.length):=⟨_,rfl⟩
 obtain⟨bn,HBN⟩:∃ n,Hid (n=b.length):=⟨_,rfl⟩
 rw[←HSN.out] at HF1 HF2 ⊢
 rw[←HAN.out] at HF1 ⊢
 rw[←HBN.out] at HF2 ⊢
 obtain⟨X,HX⟩:∃ X,Hid (X=zbv s d.toNat root.toNat a):=⟨_,rfl⟩
 obtain⟨Y,HY⟩:∃ X,Hid (X=zbv s d.toNat root.toNat b):=⟨_,rfl⟩
 rw[←HX.out] at HF1 HL1 ⊢
 rw[←HY.out] at HF2 HL2 ⊢
 clear hS ha hb hla hlb hv hv2 g1 g2 g3 g4 g5
 obtain⟨Q,HQ⟩:∃ Q:Ending→World→Prop,Hid (Q=fun e w'=>e= .returned (.tuple #[.bool (decide (X=Y)),.int .u8 0])∧Below w.heap.size w w'):=⟨_,rfl⟩
 rw[←HQ.out]
 obtain⟨z,HZ⟩:∃ z,Hid (z=decide (X=Y)):=⟨_,rfl⟩
 have HEND:Hid (∀ w',Below w.heap.size w w'→Q (.returned (.tuple #[.bool z,.int .u8 0])) w'):=fun w' hb=>by rw[HQ.out,HZ.out];exact⟨rfl,hb⟩
 go_enter Tryz.func24,Tryz.ntmps24
 go_wp2_with (first
  | (go_at_call 25;(with_reducible refine HF1.out.mono ?_);rintro e w1 ⟨v1,rfl,hO1,hb1⟩;obtain⟨a1,c1,rfl⟩:=zdT hO1;have HO1:=hid hO1;have HB1:=hid hb1;obtain⟨xn,HXN⟩:∃ n,Hid (n=X.length):=⟨_,rfl⟩;rw[←HXN.out] at HO1 ⊢;clear hO1 hb1 HF1)
  | (go_at_call 25;(with_reducible refine (HF2.out _ HB1.out).mono ?_);rintro e w2 ⟨v2,rfl,hO2,hb2⟩;obtain⟨a2,c2,rfl⟩:=zdT hO2;have HEQ:=hid (znK ((HO1.out.below_of hb2).bytes HL1.out) (hO2.bytes HL2.out));have HB2:=hid (HB1.out.trans (hb2.mono HB1.out.size));obtain⟨yn,HYN⟩:∃ n,Hid (n=Y.length):=⟨_,rfl⟩;rw[←HYN.out,←HZ.out] at HEQ;rw[←HYN.out];clear hO2 hb2 HO1 HF2)
  | (go_at_call 53;(with_reducible refine HEQ.out.mono ?_);rintro e w3 ⟨rfl,rfl⟩))
 exact HEND.out _ HB2.out
end
section
open Go.RowKit
def s24:List Mes:=[⟨⟨#[109]⟩,[⟨⟨#[97]⟩,1,3,false,false,0⟩]⟩]
theorem zsW:zhj s24 0 [8,1] [8,2] 0=(0,[[97]],false):=by decide +kernel
theorem ztD:zhj s24 0 [8,1] [8,1] 0=(0,[],false):=by decide +kernel
theorem zoc (w:World):Calls Tryz.prog 7 #[] w fun e w'=>e= .returned (.bool true)∧Below w.heap.size w w':=by
 obtain⟨X,HX⟩:∃ X,Hid (X=w.heap.size):=⟨_,rfl⟩
 obtain⟨W,HW⟩:∃ W,Hid (W=((w.alloc (.cells #[.string ⟨#[97]⟩,.int .i64 1,.int .i64 3,.bool false,.bool false,.int .i64 0] 73)).alloc (.cells #[.string ⟨#[109]⟩,.slice (some ⟨X,0,none⟩) 1 1] 76))):=⟨_,rfl⟩
 have hS:zap W (.slice (some ⟨X+1,0,none⟩) 1 1) s24:=by
  rw[HW.out,HX.out]
  refine zkm (Blk.new' _ [.string ⟨#[109]⟩,.slice (some ⟨w.heap.size,0,none⟩) 1 1] _ _ (by simp)) (by decide) ?_
  refine zpM (Blk.alloc (Blk.new w _ _) _) 1 rfl (by omega) ?_
  intro f hf
  simp at hf
  rcases hf with rfl
  exact⟨by decide,by decide,by decide,by decide⟩
 have hB:Below w.heap.size w W:=by rw[HW.out];(with_reducible repeat first|exact Below.refl _ _|refine pzA ?_ _|refine pzB ?_ _|refine zab ?_ _|refine Below.drew ?_)
 have HS:=hid hS
 have HB:=hid hB
 have HBY:Hid (∀ V:World,zal ((V.alloc (.cells #[.int .u8 8,.int .u8 1] 5)).alloc (.cells #[.int .u8 8,.int .u8 2] 5)) (.slice (some ⟨V.heap.size,0,none⟩) 2 2) [8,1]∧zal ((V.alloc (.cells #[.int .u8 8,.int .u8 1] 5)).alloc (.cells #[.int .u8 8,.int .u8 2] 5)) (.slice (some ⟨V.heap.size+1,0,none⟩) 2 2) [8,2]):=fun V =>
  ⟨zcA (Blk.alloc (Blk.new V ([8,1].map zfB) 5) _) 1 2 rfl (by omega),zcA (Blk.new' _ ([8,2].map zfB) 5 _ (by simp)) 1 2 rfl (by omega)⟩
 have HBY2:Hid (∀ V:World,zal ((V.alloc (.cells #[.int .u8 8,.int .u8 1] 5)).alloc (.cells #[.int .u8 8,.int .u8 1] 5)) (.slice (some ⟨V.heap.size,0,none⟩) 2 2) [8,1]∧zal ((V.alloc (.cells #[.int .u8 8,.int .u8 1] 5)).alloc (.cells #[.int .u8 8,.int .u8 1] 5)) (.slice (some ⟨V.heap.size+1,0,none⟩) 2 2) [8,1]):=fun V =>
  ⟨zcA (Blk.alloc (Blk.new V ([8,1].map zfB) 5) _) 1 2 rfl (by omega),zcA (Blk.new' _ ([8,1].map zfB) 5 _ (by simp)) 1 2 rfl (by omega)⟩
 have HSTR:Hid (∀ V:World,zbe (V.alloc (.cells #[.string ⟨#[97]⟩] 9)) (.slice (some ⟨V.heap.size,0,none⟩) 1 1) [[97]]):=fun V =>
  ⟨zcA (Blk.new V ([[97]].map zb3) 9) 1 1 rfl (by omega),by decide⟩
 clear hS hB
 obtain⟨W1,HW1⟩:∃ V,Hid (V=(W.alloc (.cells #[.int .u8 8,.int .u8 1] 5)).alloc (.cells #[.int .u8 8,.int .u8 2] 5)):=⟨_,rfl⟩
 have hb1:Below W.heap.size W W1:=by rw[HW1.out];(with_reducible repeat first|exact Below.refl _ _|refine pzA ?_ _|refine pzB ?_ _|refine zab ?_ _|refine Below.drew ?_)
 have HB1:=hid hb1
 have h1:=HBY.out W
 rw[←HW1.out] at h1
 have HP1:=hid (zky (HS.out.below hb1) h1.1 h1.2 (by decide) (by decide) 0 0)
 rw[zsW] at HP1
 unfold zfA at HP1
 have HZ:Hid (W.heap.size=X+1+1):=by rw[Hid,HW.out,HX.out];simp
 clear hb1 h1
 go_enter Tryz.func7,Tryz.ntmps7
 go_upto_region 2 with fail
 rw[←HX.out,←HW.out]
 go_upto_region 3 with ((try rw[←HW1.out]);go_at_call 18;refine HP1.out.mono ?_;rintro e w2 ⟨v2,rfl,hO2,hb2⟩)
 obtain⟨la,lc,rfl⟩:=hO2.form
 have HB2:=hid (HB1.out.trans (hb2.mono HB1.out.size))
 have HO2:=hid hO2
 obtain⟨W3,HW3⟩:∃ V,Hid (V=(w2.alloc (.cells #[.int .u8 8,.int .u8 1] 5)).alloc (.cells #[.int .u8 8,.int .u8 1] 5)):=⟨_,rfl⟩
 have hb3:Below w2.heap.size w2 W3:=by rw[HW3.out];(with_reducible repeat first|exact Below.refl _ _|refine pzA ?_ _|refine pzB ?_ _|refine zab ?_ _|refine Below.drew ?_)
 have HB3:=hid hb3
 have HB03:=hid (HB2.out.trans (hb3.mono HB2.out.size))
 have h3:=HBY2.out w2
 rw[←HW3.out] at h3
 have HP3:=hid (zky (HS.out.below HB03.out) h3.1 h3.2 (by decide) (by decide) 0 0)
 rw[ztD] at HP3
 unfold zfA at HP3
 clear hb2 hO2 hb3 h3
 go_upto_region 4 with ((try rw[←HW3.out]);go_at_call 18;refine HP3.out.mono ?_;rintro e w4 ⟨v4,rfl,hO4,hb4⟩)
 obtain⟨ma,mc,rfl⟩:=hO4.form
 have HB4:=hid (HB03.out.trans (hb4.mono HB03.out.size))
 have HB34:=hid (HB3.out.trans (hb4.mono HB3.out.size))
 obtain⟨W5,HW5⟩:∃ V,Hid (V=w4.alloc (.cells #[.string ⟨#[97]⟩] 9)):=⟨_,rfl⟩
 have hb5:Below w4.heap.size w4 W5:=by rw[HW5.out];(with_reducible repeat first|exact Below.refl _ _|refine pzA ?_ _|refine pzB ?_ _|refine zab ?_ _|refine Below.drew ?_)
 have h5:=HSTR.out w4
 rw[←HW5.out] at h5
 have HSM:=hid (zp5 ((HO2.out.later (HB34.out.trans (hb5.mono HB34.out.size))).strs (by decide) (by decide)) h5)
 have HEND:=hid (HB.out.trans ((HB4.out.trans (hb5.mono HB4.out.size)).mono HB.out.size))
 clear hb4 hO4 hb5 h5
 go_wp2_with ((try rw[←HW5.out]);go_at_call 26;refine HSM.out.mono ?_;rintro e w6 ⟨rfl,hb6⟩)
 go_ret
 exact⟨by simp,HEND.out.trans (hb6.mono HEND.out.size)⟩
end
end Go.Proofs.YtpckoeicbjfnhaaGreatDoor
