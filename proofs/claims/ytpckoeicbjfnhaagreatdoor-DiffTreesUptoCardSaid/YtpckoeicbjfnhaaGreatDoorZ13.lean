/- Parts of a proof: texts of the author, merged. No condition of their own. -/
import Derived.Test.YtpckoeicbjfnhaaGreatDoorZ07
import Derived.Test.YtpckoeicbjfnhaaGreatDoorZ09
import Derived.Test.YtpckoeicbjfnhaaGreatDoorZ11
import Derived.Test.YtpckoeicbjfnhaaGreatDoorZ12
import Derived.Deep.AppendLies
import Derived.Deep.RegionHeld3
import Derived.Deep.DeepCutAuto
import Derived.Laws.BitsAllLaws
namespace Go.Proofs.YtpckoeicbjfnhaaGreatDoor
set_option maxRecDepth 100000
set_option maxHeartbeats 16000000
section
open Go.RowKit
def ziV {α:Type}(f:α→Nat):List α→Nat→Nat
 | [],n=>n
 | x::t,n=>if 5000≤n+f x then 5000 else ziV f t (n+f x)
def szV {α:Type}(f:α→Nat)(v:Val α):Nat:=ziV f v.subs (1+v.words.length+twt v.texts)
def szM:(k d:Nat)→M d→Nat
 | 0,_,_=>5000
 | _+1,0,_=>0
 | k+1,d+1,x=>ziV (szV (szM k d)) (M.vals x) (1+twt (M.unk x))
theorem zoU {α:Type}(f:α→Nat):∀ (l:List α) (n:Nat),n<5000→ziV f l n≤5000
 | [],n,h=>by simp only[ziV];omega
 | x::t,n,h=>by
  unfold ziV
  split
  ·
   omega
  ·
   exact zoU f t (n+f x) (by omega)
theorem zoV {α:Type}(f:α→Nat):∀ (l:List α) (n:Nat),ziV f l n≤5000+n
 | [],n=>by simp[ziV]
 | x::t,n=>by
  unfold ziV
  split
  ·
   omega
  ·
   have:=zoU f t (n+f x) (by omega)
   omega
theorem zoW:∀ (k d:Nat) (x:M d),szM k d x≤5000+mwt d x
 | 0,_,_=>by simp[szM]
 | _+1,0,_=>by simp[szM]
 | k+1,d+1,x=>by
  have h:=zoV (szV (szM k d)) (M.vals x) (1+twt (M.unk x))
  have e:mwt (d+1) x=1+twt (M.unk x)+((M.vals x).map (vwt (mwt d))).sum:=rfl
  show ziV _ _ _≤_
  omega
theorem szV_le {α:Type}(f:α→Nat)(g:α→Nat)(v:Val α):szV f v≤5000+vwt g v:=by
 have h:=zoV f v.subs (1+v.words.length+twt v.texts)
 unfold szV vwt
 omega
theorem zoX {α:Type}(f:α→Nat)(l:List α)(j y:Nat)(m:α)(h:l[j]?=some m):ziV f (l.drop j) y=if 5000≤y+f m then 5000 else ziV f (l.drop (j+1)) (y+f m):=by
 obtain⟨hj,rfl⟩:=List.getElem?_eq_some_iff.1 h
 rw[List.drop_eq_getElem_cons hj]
 rfl
theorem zfP (w:World):(sizeOf 81).run Tryz.prog w= .ok 4 w:=by kernel_rfl
theorem zdZ (w:World):(sizeOf 27).run Tryz.prog w= .ok 2 w:=by kernel_rfl
theorem zcm (w:World):(sizeOf 9).run Tryz.prog w= .ok 1 w:=by kernel_rfl
theorem zeU (w:World):(sizeOf 107).run Tryz.prog w= .ok 1 w:=by kernel_rfl
def zrt (k d:Nat):Prop:=∀ (w:World) (v:Value) (x:M d),zan d w v x→mwt d x≤1099511627776 →
 Calls Tryz.prog 9 #[v,.int .i64 ((k:Int) - 1)] w fun e w'=>e= .returned (.int .i64 (szM k d x))∧Below w.heap.size w w'
theorem zmG (l:List (List UInt8))(k:Nat)(t:List UInt8)(h:l[k]?=some t):twt (l.take (k+1))=twt (l.take k)+(1+t.length):=zmE _ l k t h
theorem zhy (l:List (List UInt8))(k:Nat):twt (l.take k)≤twt l:=zhw _ l k
theorem zfQ {d k:Nat}(ih:zrt k d)(hk:k≤1000){w:World}{v:Value}{x:Val (M d)}(h:zbD (zan d) w v x)(hw:vwt (mwt d) x≤1099511627776) :
  Calls Tryz.prog 27 #[v,.int .i64 k] w fun e w'=>e= .returned (.int .i64 (szV (szM k d) x))∧Below w.heap.size w w':=by
 obtain⟨wv,tv,sv,rfl,hnum,hW,hT,hS⟩:=h
 obtain⟨hwl,wa,wc,rfl,-,-⟩:=hW.open
 obtain⟨htl,ta,tc,rfl,-,hta⟩:=hT.open
 obtain⟨hsl,sa,sc,rfl,-,hsa⟩:=hS.open
 obtain⟨wn,HWN⟩:∃ n,Hid (n=x.words.length):=⟨_,rfl⟩
 obtain⟨tn,HTN⟩:∃ n,Hid (n=x.texts.length):=⟨_,rfl⟩
 obtain⟨sn,HSN⟩:∃ n,Hid (n=x.subs.length):=⟨_,rfl⟩
 have HV:Hid (1+wn+twt x.texts+(x.subs.map (mwt d)).sum≤1099511627776):=by rw[Hid,HWN.out];exact hw
 rw[←HWN.out] at hwl ⊢
 rw[←HTN.out] at htl ⊢
 rw[←HSN.out] at hsl ⊢
 have HTA:=hid hta
 have HSA:=hid hsa
 have HIH:=hid ih
 generalize x.num=num at *
 clear hta hsa ih hW hT hS hw
 go_enter Tryz.func27,Tryz.ntmps27
 go_wp2_with fail
 obtain⟨W0,HW0⟩:∃ W0,Hid (W0=w.alloc (.cells #[.int .i64 num,.slice wa wn wc,.slice ta tn tc,.slice sa sn sc] 81)):=⟨_,rfl⟩
 rw[←HW0.out]
 have hB0:Below w.heap.size w W0:=by rw[HW0.out];exact (Below.refl _ _).alloc (Nat.le_refl _) _
 have hsz0:w.heap.size<W0.heap.size:=by rw[HW0.out];simp
 have hc2:W0.cell? ⟨w.heap.size,2,none⟩=some (.slice ta tn tc):=by rw[HW0.out];simp[go_sem]
 have hc3:W0.cell? ⟨w.heap.size,3,none⟩=some (.slice sa sn sc):=by rw[HW0.out];simp[go_sem]
 have HB0:=hid hB0
 have HC3:=hid hc3
 clear hB0 hc3
 go_loopw [5,6] (fun v5 v6 wr=>∃ (z i:Nat),v5= .int .i64 z∧i≤tn∧z≤1099511627776∧v6= .int .i64 i∧Hid (z=1+wn+twt (x.texts.take i))∧wr=W0) (fun _ v6 _=>tn - (intOf v6).toNat)
 case atStart =>
  have h1:=HV.out
  refine⟨1+wn,0,?_,by omega,by omega,rfl,by simp[Hid,twt],rfl⟩
  go_num
 case round =>
  obtain⟨z,i,rfl,hi,hz,rfl,HZ,hwr⟩:=hrel
  have hwr':=hwr.symm
  subst hwr'
  by_cases hlt:i<tn
  ·
   have hti:x.texts[i]?=some (x.texts[i]'(by rw[←HTN.out];exact hlt)):=List.getElem?_eq_getElem _
   generalize x.texts[i]'(by rw[←HTN.out];exact hlt)=t at hti
   have hta:=HTA.out
   obtain⟨ht1,b,o,ha,g0⟩:=hta i t hti
   clear hta
   have HST:Hid (z+1+t.length=1+wn+twt (x.texts.take (i+1))∧z+1+t.length≤1099511627776):=by
    have h1:=zmG _ _ _ hti
    have h2:=zhy x.texts (i+1)
    have h3:=HV.out
    have h4:=HZ.out
    refine⟨by omega,by omega⟩
   have hsb:(⟨t.toArray⟩:ByteArray).size=t.length:=by simp[ByteArray.size]
   unfold zbv at g0
   generalize (⟨t.toArray⟩:ByteArray)=bt at *
   generalize t.length=tl at *
   have hix:=zad Tryz.underlying25 zcm ha i hlt (cap:=tc)
   replace g0:=zaa HB0.out _ _ g0
   clear ha hti
   go_wp2_with fail
   go_roundw
   case rel=>exact⟨z+1+tl,i+1,by first|go_num|(rw[hsb];go_num),hlt,HST.out.2,by go_num,HST.out.1,by first|trivial|rfl⟩
   case measure=>simp[intOf];omega
  ·
   obtain rfl:i=tn:=by omega
   have HZ2:Hid (z=1+wn+twt x.texts):=by
    have:=HZ.out
    rwa [HTN.out,List.take_length] at this
   go_wp2_with fail
   clear hc2
   go_loopw [5,7] (fun v5 v7 wq=>∃ (y j:Nat),v5= .int .i64 y∧j≤sn∧y≤1099511627776∧v7= .int .i64 j∧Hid (ziV (szM k d) (x.subs.drop j) y=szV (szM k d) x)∧Hid (Below W0.heap.size W0 wq)) (fun _ v7 _=>sn - (intOf v7).toNat)
   case atStart =>
    refine⟨z,0,rfl,by omega,hz,rfl,?_,Below.refl _ _⟩
    show ziV _ (x.subs.drop 0) z=_
    rw[List.drop_zero,HZ2.out,HWN.out];rfl
   case round =>
    obtain⟨y,j,rfl,hj,hy,rfl,HG,HBQ⟩:=hrel
    have c3:=zaa HBQ.out _ _ HC3.out
    have hbl3:w.heap.size<wr.heap.size:=World.block_lt_of_cell? wr _ c3
    by_cases hls:j<sn
    ·
     have hmi:x.subs[j]?=some (x.subs[j]'(by rw[←HSN.out];exact hls)):=List.getElem?_eq_getElem _
     generalize x.subs[j]'(by rw[←HSN.out];exact hls)=m at hmi
     have hsa:=HSA.out
     obtain⟨b,o,v1,v2,ha,g0,g1,hM⟩:=hsa j m hmi
     clear hsa
     have hBq:Below w.heap.size w wr:=HB0.out.trans (HBQ.out.mono HB0.out.size)
     have hkr:=zaa hBq
     replace g0:=hkr _ _ g0
     replace g1:=hkr _ _ g1
     have HMM:=hid (hM.below hBq)
     have HMB:Hid (mwt d m≤1099511627776):=by
      have h1:=zba (mwt d) x.subs m (List.mem_of_getElem? hmi)
      have h2:=HV.out
      show _≤_;omega
     have HGO:Hid (szV (szM k d) x=if 5000≤y+szM k d m then 5000 else ziV (szM k d) (x.subs.drop (j+1)) (y+szM k d m)):=by
      rw[Hid,←HG.out,zoX _ _ _ _ _ hmi]
     have hs:szM k d m≤5000+1099511627776:=Nat.le_trans (zoW k d m) (by have:=HMB.out;omega)
     have HBQ2:=hid hBq
     have hix:=zae Tryz.underlying79 zdZ ha j hls (cap:=sc)
     have hbl:b<wr.heap.size:=World.block_lt_of_cell? wr _ g0
     clear ha hkr hM hBq hmi HG
     go_wp2_with fail
     refine (HIH.out wr _ m HMM.out HMB.out).mono ?_
     rintro e w3 ⟨rfl,hb3⟩
     generalize szM k d m=s at *
     have HB3:Hid (Below W0.heap.size W0 w3):=HBQ.out.trans (hb3.mono HBQ.out.size)
     by_cases h5:5000≤y+s
     ·
      go_wp2_with fail
      go_ret
      refine⟨zcT (zbp ?_),HB0.out.trans (HB3.out.mono HB0.out.size)⟩
      rw[HGO.out,if_pos h5]
      rfl
     ·
      go_wp2_with fail
      go_roundw
      case rel =>
       refine⟨y+s,j+1,by go_num,hls,by omega,by go_num,?_,HB3⟩
       rw[Hid,HGO.out,if_neg h5]
      case measure=>simp[intOf];omega
    ·
     obtain rfl:j=sn:=by omega
     go_wp2_with fail
     go_ret
     refine⟨zcT (zbp ?_),HB0.out.trans (HBQ.out.mono HB0.out.size)⟩
     have:=HG.out
     rw[HSN.out,List.drop_length] at this
     rw[←this];rfl
theorem zhz {w:World}{va ua:Option Addr}{n1 vc n2 uc:Nat} :
  Calls Tryz.prog 9 #[.agg #[.slice va n1 vc,.slice ua n2 uc],.int .i64 (-1)] w fun e w'=>e= .returned (.int .i64 5000)∧Below w.heap.size w w':=by
 go_enter Tryz.func9,Tryz.ntmps9
 go_wp2_with fail
 go_ret
 exact⟨rfl,(Below.refl _ _).alloc (Nat.le_refl _) _⟩
theorem ziW:∀ (k d:Nat),k≤1000→zrt k d:=by
 intro k
 induction k with
 | zero =>
  intro d _ w v x h _
  cases d with
  | zero=>exact h.elim
  | succ d =>
   obtain⟨vv,uv,rfl,hV,hU⟩:=h
   obtain⟨-,va,vc,rfl,-,-⟩:=hV.open
   obtain⟨-,ua,uc,rfl,-,-⟩:=hU.open
   exact zhz.mono fun e w' h=>h
 | succ k ihk =>
  intro d hk w v x h hw
  cases d with
  | zero=>exact h.elim
  | succ d =>
  have ih:∀ (w:World) (v:Value) (x:Val (M d)),zbD (zan d) w v x→vwt (mwt d) x≤1099511627776 →
    Calls Tryz.prog 27 #[v,.int .i64 k] w fun e w'=>e= .returned (.int .i64 (szV (szM k d) x))∧Below w.heap.size w w':=fun _ _ _ h=>zfQ (ihk d (by omega)) (by omega) h
  obtain⟨vv,uv,rfl,hS,hT⟩:=h
  obtain⟨htl,ta,tc,rfl,-,hta⟩:=hT.open
  obtain⟨hsl,sa,sc,rfl,-,hsa⟩:=hS.open
  obtain⟨tn,HTN⟩:∃ n,Hid (n=(M.unk x).length):=⟨_,rfl⟩
  obtain⟨sn,HSN⟩:∃ n,Hid (n=(M.vals x).length):=⟨_,rfl⟩
  have HV:Hid (1+twt (M.unk x)+((M.vals x).map (vwt (mwt d))).sum≤1099511627776):=hw
  rw[←HTN.out] at htl ⊢
  rw[←HSN.out] at hsl ⊢
  have HTA:=hid hta
  have HSA:=hid hsa
  have HIH:=hid ih
  clear hta hsa ih hT hS hw ihk
  show Calls _ _ #[_,.int .i64 (((k+1:Nat):Int) - 1)] _ fun e w'=>e= .returned (.int .i64 (ziV (szV (szM k d)) (M.vals x) (1+twt (M.unk x)):Nat))∧_
  rw[show ((k+1:Nat):Int) - 1=(k:Int) by omega]
  obtain⟨us,HUS⟩:∃ us,Hid (us=M.unk x):=⟨_,rfl⟩
  obtain⟨vs,HVS⟩:∃ vs,Hid (vs=M.vals x):=⟨_,rfl⟩
  rw[←HUS.out] at HTN HV HTA ⊢
  rw[←HVS.out] at HSN HV HSA ⊢
  clear HUS HVS
  clear x
  go_enter Tryz.func9,Tryz.ntmps9
  go_wp2_with fail
  obtain⟨W0,HW0⟩:∃ W0,Hid (W0=w.alloc (.cells #[.slice sa sn sc,.slice ta tn tc] 27)):=⟨_,rfl⟩
  rw[←HW0.out]
  have hB0:Below w.heap.size w W0:=by rw[HW0.out];exact (Below.refl _ _).alloc (Nat.le_refl _) _
  have hsz0:w.heap.size<W0.heap.size:=by rw[HW0.out];simp
  have hc2:W0.cell? ⟨w.heap.size,1,none⟩=some (.slice ta tn tc):=by rw[HW0.out];simp[go_sem]
  have hc3:W0.cell? ⟨w.heap.size,0,none⟩=some (.slice sa sn sc):=by rw[HW0.out];simp[go_sem]
  have HB0:=hid hB0
  have HC3:=hid hc3
  clear hB0 hc3
  go_loopw [5,6] (fun v5 v6 wr=>∃ (z i:Nat),v5= .int .i64 z∧i≤tn∧z≤1099511627776∧v6= .int .i64 i∧Hid (z=1+twt (us.take i))∧wr=W0) (fun _ v6 _=>tn - (intOf v6).toNat)
  case atStart=>exact⟨1,0,rfl,by omega,by omega,rfl,by simp[Hid,twt],rfl⟩
  case round =>
   obtain⟨z,i,rfl,hi,hz,rfl,HZ,hwr⟩:=hrel
   have hwr':=hwr.symm
   subst hwr'
   by_cases hlt:i<tn
   ·
    have hti:us[i]?=some (us[i]'(by rw[←HTN.out];exact hlt)):=List.getElem?_eq_getElem _
    generalize us[i]'(by rw[←HTN.out];exact hlt)=t at hti
    have hta:=HTA.out
    obtain⟨ht1,b,o,ha,g0⟩:=hta i t hti
    clear hta
    have HST:Hid (z+1+t.length=1+twt (us.take (i+1))∧z+1+t.length≤1099511627776):=by
     have h1:=zmG _ _ _ hti
     have h2:=zhy us (i+1)
     have h3:=HV.out
     have h4:=HZ.out
     refine⟨by omega,by omega⟩
    have hsb:(⟨t.toArray⟩:ByteArray).size=t.length:=by simp[ByteArray.size]
    unfold zbv at g0
    generalize (⟨t.toArray⟩:ByteArray)=bt at *
    generalize t.length=tl at *
    have hix:=zad Tryz.underlying25 zcm ha i hlt (cap:=tc)
    replace g0:=zaa HB0.out _ _ g0
    clear ha hti
    go_wp2_with fail
    go_roundw
    case rel=>exact⟨z+1+tl,i+1,by first|go_num|(rw[hsb];go_num),hlt,HST.out.2,by go_num,HST.out.1,by first|trivial|rfl⟩
    case measure=>simp[intOf];omega
   ·
    obtain rfl:i=tn:=by omega
    have HZ2:Hid (z=1+twt us):=by
     have:=HZ.out
     rwa [HTN.out,List.take_length] at this
    go_wp2_with fail
    clear hc2
    go_loopw [5,7] (fun v5 v7 wq=>∃ (y j:Nat),v5= .int .i64 y∧j≤sn∧y≤1099511627776∧v7= .int .i64 j∧Hid (ziV (szV (szM k d)) (vs.drop j) y=ziV (szV (szM k d)) vs (1+twt us))∧Hid (Below W0.heap.size W0 wq)) (fun _ v7 _=>sn - (intOf v7).toNat)
    case atStart =>
     refine⟨z,0,rfl,by omega,hz,rfl,?_,Below.refl _ _⟩
     rw[Hid,List.drop_zero,HZ2.out]
    case round =>
     obtain⟨y,j,rfl,hj,hy,rfl,HG,HBQ⟩:=hrel
     have c3:=zaa HBQ.out _ _ HC3.out
     have hbl3:w.heap.size<wr.heap.size:=World.block_lt_of_cell? wr _ c3
     by_cases hls:j<sn
     ·
      have hmi:vs[j]?=some (vs[j]'(by rw[←HSN.out];exact hls)):=List.getElem?_eq_getElem _
      generalize vs[j]'(by rw[←HSN.out];exact hls)=m at hmi
      have hsa:=HSA.out
      obtain⟨b,o,v1,v2,v3,ha,g0,g1,g2,g3,hM⟩:=hsa j m hmi
      clear hsa
      have hBq:Below w.heap.size w wr:=HB0.out.trans (HBQ.out.mono HB0.out.size)
      have hkr:=zaa hBq
      replace g0:=hkr _ _ g0
      replace g1:=hkr _ _ g1
      replace g2:=hkr _ _ g2
      replace g3:=hkr _ _ g3
      have HMM:=hid (VMsg.below hM hBq)
      have HMB:Hid (vwt (mwt d) m≤1099511627776):=by
       have h1:=zba (vwt (mwt d)) vs m (List.mem_of_getElem? hmi)
       have h2:=HV.out
       show _≤_;omega
      have HGO:Hid (ziV (szV (szM k d)) vs (1+twt us)=if 5000≤y+szV (szM k d) m then 5000 else ziV (szV (szM k d)) (vs.drop (j+1)) (y+szV (szM k d) m)):=by
       rw[Hid,←HG.out,zoX _ _ _ _ _ hmi]
      have hs:szV (szM k d) m≤5000+1099511627776:=Nat.le_trans (szV_le (szM k d) (mwt d) m) (by have:=HMB.out;omega)
      have hix:=zae Tryz.underlying24 zfP ha j hls (cap:=sc)
      have hbl:b<wr.heap.size:=World.block_lt_of_cell? wr _ g0
      clear ha hkr hM hBq hmi HG
      generalize m.num=num at *
      go_wp2_with fail
      refine (HIH.out _ _ _ HMM.out HMB.out).mono ?_
      rintro e w3 ⟨rfl,hb3⟩
      generalize szV (szM k d) m=s at *
      have HB3:Hid (Below W0.heap.size W0 w3):=HBQ.out.trans (hb3.mono HBQ.out.size)
      by_cases h5:5000≤y+s
      ·
       go_wp2_with fail
       go_ret
       refine⟨zcT (zbp ?_),HB0.out.trans (HB3.out.mono HB0.out.size)⟩
       rw[HGO.out,if_pos h5]
       rfl
      ·
       go_wp2_with fail
       go_roundw
       case rel =>
        refine⟨y+s,j+1,by go_num,hls,by omega,by go_num,?_,HB3⟩
        rw[Hid,HGO.out,if_neg h5]
       case measure=>simp[intOf];omega
     ·
      obtain rfl:j=sn:=by omega
      go_wp2_with fail
      go_ret
      refine⟨zcT (zbp ?_),HB0.out.trans (HBQ.out.mono HB0.out.size)⟩
      have:=HG.out
      rw[HSN.out,List.drop_length] at this
      rw[←this];rfl
end
section
open Go.RowKit
theorem zfk (k:Int)(hk:k=0∨k=1∨k=5)(w:World) :
  Calls Tryz.prog 184 #[.int .i64 k] w fun e w'=>e= .returned (.int .i64 (if k=1 then 8 else if k=5 then 4 else 0))∧w=w':=by
 rcases hk with rfl|rfl|rfl
 all_goals
  go_enter Tryz.func184,Tryz.ntmps184
  go_wp2_with fail
  go_ret
  exact⟨rfl,rfl⟩
end
section
open Go.RowKit
end
section
open Go.RowKit
def zej (n0 base:Nat)(w:World)(P:World→Prop):Prop:=∀ w',(∀ b,b<w.heap.size→(b<n0∨base≤b)→w'.heap[b]?=w.heap[b]?)→P w'
theorem zej.here {n0 base:Nat}{w:World}{P:World→Prop}(h:zej n0 base w P):P w:=h w fun _ _ _=>rfl
theorem zej.later {n0 base:Nat}{w w2:World}{P:World→Prop}(h:zej n0 base w P)(hb:Below w.heap.size w w2):zej n0 base w2 P:=fun w' hw'=>h w' fun b hlt hc=>(hw' b (Nat.lt_of_lt_of_le hlt hb.size) hc).trans (hb.block b hlt)
def zag {α:Type}(P:World→List Value→α→Prop)(T:TypeId)(k n0 base:Nat)(w:World)(v:Value)(l:List α):Prop:=
 ∃ rows:List (List Value),rows.length=l.length∧(∀ r∈rows,r.length=k)∧w.ownsRow base T k v l.length rows.flatten ∧
  ∀ w',(∀ b,b<w.heap.size→v.ownBlock≠some b→(b<n0∨base≤b)→w'.heap[b]?=w.heap[b]?)→∀ (i:Nat) (r:List Value) (x:α),rows[i]?=some r→l[i]?=some x→P w' r x
theorem zag.nil {α:Type}(P:World→List Value→α→Prop)(T:TypeId)(k n0 base:Nat)(w:World):zag P T k n0 base w (.slice none 0 0) []:=
 ⟨[],rfl,by simp,World.ownsRow_nil _ _ _ _,fun _ _ i r x h=>by simp at h⟩
theorem zag.later {α:Type}{P:World→List Value→α→Prop}{T:TypeId}{k n0 base:Nat}{w w2:World}{v:Value}{l:List α}(h:zag P T k n0 base w v l)
  (hw:∀ b,b<w.heap.size→(b<n0∨base≤b)→w2.heap[b]?=w.heap[b]?) (hs:w.heap.size≤w2.heap.size):zag P T k n0 base w2 v l:=by
 obtain⟨rows,h1,h2,h3,h4⟩:=h
 refine⟨rows,h1,h2,zaF h3 fun b cur hb he=>hw b (Array.getElem?_eq_some_iff.1 he).1 (.inr hb),fun w' hw'=>h4 w' fun b hlt hne hc=>(hw' b (by omega) hne hc).trans (hw b hlt hc)⟩
theorem zag.below {α:Type}{P:World→List Value→α→Prop}{T:TypeId}{k n0 base:Nat}{w w2:World}{v:Value}{l:List α}(h:zag P T k n0 base w v l)(hb:Below w.heap.size w w2):zag P T k n0 base w2 v l:=
 h.later (fun b hlt _=>hb.block b hlt) hb.size
theorem zag.form {α:Type}{P:World→List Value→α→Prop}{T:TypeId}{k n0 base:Nat}{w:World}{v:Value}{l:List α}(h:zag P T k n0 base w v l):∃ a c,v= .slice a l.length c:=by
 obtain⟨rows,-,-,h3,-⟩:=h
 rcases h3.2 with ⟨rfl,h0⟩|⟨g,cap,cur,rfl,_⟩
 ·
  exact⟨none,0,by rw[h0]⟩
 ·
  exact⟨_,_,rfl⟩
theorem zag.at {α:Type}{P:World→List Value→α→Prop}{T:TypeId}{k n0 base:Nat}{w:World}{v:Value}{l:List α}(h:zag P T k n0 base w v l)(hl:l.length≤140737488355328){w':World}
  (hw:∀ b,b<w.heap.size→(b<n0∨base≤b)→w'.heap[b]?=w.heap[b]?):zcN P k w' v l:=by
 obtain⟨rows,h1,h2,h3,h4⟩:=h
 exact⟨rows,h1,h2,zbV (zaF h3 fun b cur hb he=>hw b (Array.getElem?_eq_some_iff.1 he).1 (.inr hb)) hl,fun i r x hr hx=>h4 w' (fun b hlt _ hc=>hw b hlt hc) i r x hr hx⟩
theorem zag.append' {α:Type}{P:World→List Value→α→Prop}{T:TypeId}{k n0 base:Nat}{w:World}{v:Value}{l:List α}(h:zag P T k n0 base w v l)(hk:0<k)
  {G:Program} (t:TypeId) (z:Value) (bytes:Nat) (ht:G.underlying t=some (.slice T)) (hinfo:(G.info? T).map (fun i=>(i.zero,i.size,i.bytes))=some (some z,k,bytes)) (hzs:z.cells.size=k)
  (cells:Array Value) (hr:cells.size=k) (h1:∀ u∈cells.toList,u.oneCell'=true) (x:α)
  (hP:∀ w',(∀ b,b<w.heap.size→v.ownBlock≠some b→(b<n0∨base≤b)→w'.heap[b]?=w.heap[b]?)→P w' cells.toList x) (hlen:l.length≤1099511627776) (hby:bytes≤120) (hbase:base≤w.heap.size) :
  ∃ v' w',(Builtin.append_ #[t,t] t #[v,.slice (some ⟨w.heap.size,0,none⟩) 1 1]).run G (w.alloc (.cells cells T))= .ok v' w'∧zag P T k n0 base w' v' (l++[x]) ∧
   (w.alloc (.cells cells T)).grownBy w' v.ownBlock∧(v'.ownBlock=v.ownBlock∨v'.ownBlock=some (w.alloc (.cells cells T)).heap.size):=by
 obtain⟨rows,g1,g2,g3,g4⟩:=h
 have hseg:Seg (w.alloc (.cells cells T)) (.slice (some ⟨w.heap.size,0,none⟩) 1 1) k 1 cells.toList:=by
  refine⟨by simp[hr],by omega,some ⟨w.heap.size,0,none⟩,1,rfl,Nat.le_refl _,by omega,by simp,fun j u hu=>⟨_,_,rfl,?_⟩⟩
  rw[Nat.zero_add,cell_of_row _ _ _ cells T (0,0) (heap_alloc_new w _)]
  simpa using hu
 have hb1:(l.length+1)*bytes≤140737488355328:=Nat.le_trans (Nat.mul_le_mul_left _ hby) (by omega)
 obtain⟨v',w',hrun,hO,hg,hat⟩:=za9 (P:=G) (w.alloc (.cells cells T)) base t t T z k bytes ht hinfo hzs hk v _ l.length 1 rows.flatten cells.toList
  (World.ownsRow.alloc g3 _) hseg h1 (by omega) hb1 (by simp;omega)
 refine⟨v',w',hrun,⟨rows++[cells.toList],by simp[g1],?_,by simpa using hO,?_⟩,hg,hat⟩
 ·
  intro r hr'
  rcases List.mem_append.1 hr' with h|h
  ·
   exact g2 r h
  ·
   simp at h;subst h;simpa using hr
 ·
  intro w2 hw2
  have hsz:w.heap.size+1≤w'.heap.size:=by have:=hg.size;simpa using this
  have hold:∀ b,b<w.heap.size→v.ownBlock≠some b→(b<n0∨base≤b)→w2.heap[b]?=w.heap[b]?:=by
   intro b hlt hne hc
   have hne':v'.ownBlock≠some b:=by
    rcases hat with e|e
    ·
     rw[e];exact hne
    ·
     rw[e];intro e2;simp at e2;omega
   exact ((hw2 b (by omega) hne' hc).trans (hg.block b (by simp;omega) (fun e=>hne e.symm))).trans (Below.heap_alloc w _ b hlt)
  intro i r y hri hyi
  by_cases hil:i<l.length
  ·
   rw[List.getElem?_append_left (by omega)] at hri
   rw[List.getElem?_append_left hil] at hyi
   exact g4 w2 hold i r y hri hyi
  ·
   have hi:i=l.length:=by
    have:=(List.getElem?_eq_some_iff.1 hyi).1
    simp at this;omega
   subst hi
   rw[←g1,List.getElem?_concat_length] at hri
   rw[List.getElem?_concat_length] at hyi
   cases hri
   cases hyi
   exact hP w2 hold
theorem zag.append {α:Type}{P:World→List Value→α→Prop}{T:TypeId}{k n0 base:Nat}{w:World}{v:Value}{l:List α}(h:zag P T k n0 base w v l)(hk:0<k)(hn0:n0≤base)
  {G:Program} (t:TypeId) (z:Value) (bytes:Nat) (ht:G.underlying t=some (.slice T)) (hinfo:(G.info? T).map (fun i=>(i.zero,i.size,i.bytes))=some (some z,k,bytes)) (hzs:z.cells.size=k)
  (cells:Array Value) (hr:cells.size=k) (h1:∀ u∈cells.toList,u.oneCell'=true) (x:α) (nb:Nat) (hnb:∀ b,v.ownBlock=some b→b<nb) (hbn:base≤nb)
  (hP:zej n0 nb w fun w'=>P w' cells.toList x) (hlen:l.length≤1099511627776) (hby:bytes≤120) (hbase:base≤w.heap.size) :
  ∃ v' w',(Builtin.append_ #[t,t] t #[v,.slice (some ⟨w.heap.size,0,none⟩) 1 1]).run G (w.alloc (.cells cells T))= .ok v' w'∧zag P T k n0 base w' v' (l++[x]) ∧
   (w.alloc (.cells cells T)).grownBy w' v.ownBlock∧(v'.ownBlock=v.ownBlock∨v'.ownBlock=some (w.alloc (.cells cells T)).heap.size):=by
 have g3:=h
 obtain⟨rows,-,-,g3,-⟩:=g3
 refine h.append' hk t z bytes ht hinfo hzs cells hr h1 x (fun w2 hold=>hP w2 fun b hlt hc=>hold b hlt ?_ (hc.imp id fun h=>Nat.le_trans hbn h)) hlen hby hbase
 intro e
 have:=hnb b e
 rcases hc with hc|hc
 ·
  have hb2:base≤b:=by
   rcases g3.2 with ⟨rfl,_⟩|⟨g,cap,cur,rfl,hb,_⟩
   ·
    simp[Value.ownBlock] at e
   ·
    simp[Value.ownBlock] at e;omega
  omega
 ·
  omega
theorem zag.own {α:Type}{P:World→List Value→α→Prop}{T:TypeId}{k n0 base:Nat}{w:World}{v:Value}{l:List α}(h:zag P T k n0 base w v l)(b:Nat)(e:v.ownBlock=some b):base≤b∧b<w.heap.size:=by
 obtain⟨rows,-,-,h3,-⟩:=h
 rcases h3.2 with ⟨rfl,h0⟩|⟨g,cap,cur,rfl,hb,hg,_⟩
 ·
  simp[Value.ownBlock] at e
 ·
  simp[Value.ownBlock] at e
  subst e
  exact⟨hb,(Array.getElem?_eq_some_iff.1 hg).1⟩
theorem zag.step {α:Type}{P:World→List Value→α→Prop}{T:TypeId}{k n0 base i:Nat}{wr w1:World}{oa:Option Addr}{oc:Nat}{l:List α}(h:zag P T k n0 base wr (.slice oa i oc) l)(hb:Below wr.heap.size wr w1)(hk:0<k)(hn0:n0≤base)(hbs:base≤wr.heap.size)(hil:l.length=i)
  {G:Program} (t:TypeId) (z:Value) (bytes:Nat) (ht:G.underlying t=some (.slice T)) (hinfo:(G.info? T).map (fun i=>(i.zero,i.size,i.bytes))=some (some z,k,bytes)) (hzs:z.cells.size=k)
  (cells:Array Value) (hr:cells.size=k) (h1:∀ u∈cells.toList,u.oneCell'=true) (x:α) (hP:zej n0 wr.heap.size w1 fun w'=>P w' cells.toList x) (hlen:i≤1099511627776) (hby:bytes≤120) :
  ∃ a' c' w5,(Builtin.append_ #[t,t] t #[.slice oa i oc,.slice (some ⟨w1.heap.size,0,none⟩) 1 1]).run G (w1.alloc (.cells cells T))= .ok (.slice a' (i+1) c') w5∧zag P T k n0 base w5 (.slice a' (i+1) c') (l++[x]) ∧
   Below base wr (w1.alloc (.cells cells T))∧Below base wr w5:=by
 have hs:=hb.size
 have hB1:Below base wr (w1.alloc (.cells cells T)):=(hb.mono hbs).alloc (by omega) _
 obtain⟨v',w',hrun,hO,hg,-⟩:=(h.below hb).append hk hn0 t z bytes ht hinfo hzs cells hr h1 x wr.heap.size (fun b e=>(h.own b e).2) hbs hP (by omega) hby (by omega)
 obtain⟨a',c',rfl⟩:=hO.form
 rw[List.length_append,List.length_singleton,hil] at *
 exact⟨a',c',w',hrun,hO,hB1,hB1.grown hg (by have:=hB1.size;omega) fun q e=>(h.own q e).1⟩
theorem zag.step' {α:Type}{P:World→List Value→α→Prop}{T:TypeId}{k n0 base i:Nat}{wr:World}{oa:Option Addr}{oc:Nat}{l:List α}(h:zag P T k n0 base wr (.slice oa i oc) l)(hk:0<k)(hbs:base≤wr.heap.size)(hil:l.length=i)
  {G:Program} (t:TypeId) (z:Value) (bytes:Nat) (ht:G.underlying t=some (.slice T)) (hinfo:(G.info? T).map (fun i=>(i.zero,i.size,i.bytes))=some (some z,k,bytes)) (hzs:z.cells.size=k)
  (cells:Array Value) (hr:cells.size=k) (h1:∀ u∈cells.toList,u.oneCell'=true) (x:α)
  (hP:∀ w',(∀ b,b<wr.heap.size→(Value.slice oa i oc).ownBlock≠some b→(b<n0∨base≤b)→w'.heap[b]?=wr.heap[b]?)→P w' cells.toList x) (hlen:i≤1099511627776) (hby:bytes≤120) :
  ∃ a' c' w5,(Builtin.append_ #[t,t] t #[.slice oa i oc,.slice (some ⟨wr.heap.size,0,none⟩) 1 1]).run G (wr.alloc (.cells cells T))= .ok (.slice a' (i+1) c') w5∧zag P T k n0 base w5 (.slice a' (i+1) c') (l++[x]) ∧
   Below base wr w5∧(wr.alloc (.cells cells T)).grownBy w5 (Value.slice oa i oc).ownBlock∧((Value.slice a' (i+1) c').ownBlock=(Value.slice oa i oc).ownBlock∨(Value.slice a' (i+1) c').ownBlock=some (wr.alloc (.cells cells T)).heap.size):=by
 have hB1:Below base wr (wr.alloc (.cells cells T)):=(Below.refl _ _).alloc hbs _
 obtain⟨v',w',hrun,hO,hg,hat⟩:=h.append' hk t z bytes ht hinfo hzs cells hr h1 x hP (by omega) hby (by omega)
 obtain⟨a',c',rfl⟩:=hO.form
 rw[List.length_append,List.length_singleton,hil] at *
 exact⟨a',c',w',hrun,hO,hB1.grown hg (by have:=hB1.size;omega) fun q e=>(h.own q e).1,hg,hat⟩
end
end Go.Proofs.YtpckoeicbjfnhaaGreatDoor
