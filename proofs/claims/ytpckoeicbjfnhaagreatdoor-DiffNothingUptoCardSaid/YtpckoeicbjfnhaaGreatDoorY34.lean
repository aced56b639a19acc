/- diff.ways: the ways in which two right meanings differ (diffW). The meanings weigh at most 2^40. -/
import Derived.Test.YtpckoeicbjfnhaaGreatDoorY06
import Derived.Test.YtpckoeicbjfnhaaGreatDoorY32
import Derived.Test.YtpckoeicbjfnhaaGreatDoorY33
import Derived.Deep.CutBlock
import Derived.Deep.CutRange
import Derived.Deep.RegionHeld3
namespace Go.Proofs.YtpckoeicbjfnhaaGreatDoor
set_option maxRecDepth 100000
set_option maxHeartbeats 16000000
section
open Go.RowKit
def zrH (s:List Mes)(a b:Nat):Prop:=∀ (w:World) (sv v u:Value) (r:Int) (x:M a) (y:M b),zap w sv s→zat a w v x→zat b w u y→zav s a r x=true→zav s b r y=true→mwt a x+mwt b y≤1099511627776 →
 Calls Tryz.prog 31 #[sv,.int .i64 r,v,u] w fun e w'=>∃ v',e= .returned v'∧zdH w w' v' (zaX s a b r x y)∧Below w.heap.size w w'
theorem zpU {α β:Type}(g:α→List β){l:List α}{k:Nat}{x:α}(h:l[k]?=some x):(l.take (k+1)).flatMap g=(l.take k).flatMap g++g x:=by
 rw[List.take_add_one,h,List.flatMap_append];simp
theorem zjD {s:List Mes}(hs:zaw s=true)(a b:Nat)(ih:zrH s a b):zrH s (a+1) (b+1):=by
 intro w sv v u root x y hS hX hY hx hy hcnt
 have hroot:=zhd hx
 obtain⟨m,rfl⟩:∃ m:Nat,root=m:=⟨root.toNat,by omega⟩
 have hm:m<s.length:=by omega
 obtain⟨vv,uv,rfl,hV,hU⟩:=hX
 obtain⟨vv2,uv2,rfl,hV2,hU2⟩:=hY
 obtain⟨X,HX⟩:∃ l,Hid (l=M.vals x):=⟨_,rfl⟩
 obtain⟨Y,HY⟩:∃ l,Hid (l=M.vals y):=⟨_,rfl⟩
 rw[←HX.out] at hV
 rw[←HY.out] at hV2
 obtain⟨-,xa,xc,rfl,-,-⟩:=hV.open
 obtain⟨-,ua,uc,rfl,-,-⟩:=hU.open
 obtain⟨-,ya,yc,rfl,-,-⟩:=hV2.open
 obtain⟨-,ua2,uc2,rfl,-,-⟩:=hU2.open
 obtain⟨xn,HXN⟩:∃ n,Hid (n=X.length):=⟨_,rfl⟩
 obtain⟨yn,HYN⟩:∃ n,Hid (n=Y.length):=⟨_,rfl⟩
 generalize (M.unk x).length=un at *
 generalize (M.unk y).length=um at *
 rw[←HXN.out] at hV ⊢
 rw[←HYN.out] at hV2 ⊢
 have HVX:=hid hV
 have HVY:=hid hV2
 obtain⟨B,HB⟩:∃ B,Hid (B=w.heap.size):=⟨_,rfl⟩
 obtain⟨W0,HW0⟩:∃ W,Hid (W=((w.alloc (.cells #[.slice xa xn xc,.slice ua un uc] 27)).alloc (.cells #[.slice ya yn yc,.slice ua2 um uc2] 27))):=⟨_,rfl⟩
 have hb0:Below w.heap.size w W0:=by rw[HW0.out];(with_reducible repeat first|exact Below.refl _ _|refine pzA ?_ _|refine pzB ?_ _|refine zab ?_ _|refine Below.drew ?_)
 have hk0:Blk W0 B [.slice xa xn xc,.slice ua un uc] 27:=by rw[HW0.out,HB.out];exact (Blk.new w [.slice xa xn xc,.slice ua un uc] _).alloc _
 have hk1:Blk W0 (B+1) [.slice ya yn yc,.slice ua2 um uc2] 27:=by rw[HW0.out,HB.out];exact Blk.new' _ [.slice ya yn yc,.slice ua2 um uc2] _ _ (by simp)
 have HPR:=hid (zpH (xb:=ua) (xm:=un) (xd:=uc) (yb:=ua2) (ym:=um) (yd:=uc2) (hV.keep (zaa hb0) fun _ _ h=>zat.below h hb0) (hV2.keep (zaa hb0) fun _ _ h=>zat.below h hb0))
 have HB0:=hid hb0
 have c00:=hk0.cell 0 _ rfl
 have c01:=hk0.cell 1 _ rfl
 have c10:=hk1.cell 0 _ rfl
 have c11:=hk1.cell 1 _ rfl
 have cl:=hk1.lt
 obtain⟨fs,HFS⟩:∃ fs,Hid (fs=(s.getD m .zero).fields):=⟨_,rfl⟩
 have HS:=hid hS
 obtain⟨-,sa,sc,rfl,hat⟩:=hS.open
 obtain⟨sn,HSN⟩:∃ n,Hid (n=s.length):=⟨_,rfl⟩
 obtain⟨sb,so,fv,hsa,-,c0,c1,hF⟩:=hat m hm
 subst hsa
 rw[←HFS.out] at hF
 rw[←HSN.out] at HS hm ⊢
 obtain⟨nm,HNM⟩:∃ nm,Hid (nm=(s.getD m .zero).name):=⟨_,rfl⟩
 rw[←HNM.out] at c0
 have HFT0:=hid hF
 obtain⟨hfl,fa,fc,rfl,hfat⟩:=hF.open
 obtain⟨fn,HFN⟩:∃ n,Hid (n=fs.length):=⟨_,rfl⟩
 rw[←HFN.out] at c1 HFT0
 have HC01:=hid (And.intro c0 c1)
 have HFAT:=hid hfat
 have HIH:=hid ih
 have HRX:=hid hx
 have HRY:=hid hy
 have HSR:=hid hs
 have HMW:=hid hcnt
 have HCNT:Hid ((zaX s (a+1) (b+1) (m:Int) x y).length≤1099511627776):=Nat.le_trans (zdF hs (a+1) (b+1) (m:Int) x y) hcnt
 have HROOT:=hid hroot
 obtain⟨Q,HQ⟩:∃ Q:Ending→World→Prop,Hid (Q=fun e w'=>∃ v',e= .returned v'∧zdH w w' v' (zaX s (a+1) (b+1) (m:Int) x y)∧Below w.heap.size w w'):=⟨_,rfl⟩
 rw[←HQ.out]
 clear hS hat hF hfl hfat ih hx hy hs hcnt hroot hU hU2 hV hV2 hb0 hk0 hk1 c0 c1
 go_enter Tryz.func31,Tryz.ntmps31
 go_upto_region 2 with fail
 rw[←HW0.out,←HB.out]
 go_wp2_with (go_at_call 64;refine HPR.out.mono ?_;rintro e w1 ⟨r,es,bx,ox,by',oy,rfl,hmap,hpm,hxa,hya,hb1⟩)
 have HB1:=hid (HB0.out.trans (hb1.mono HB0.out.size))
 have hbnd:∀ n∈es.map Prod.fst,1≤n∧n≤536870911:=fun n hn=>by
  rcases (hpm.keys n).1 hn with ⟨v,hv,rfl⟩|⟨v,hv,rfl⟩
  ·
   exact zkl HSR.out HRX.out v (by rw[←HX.out];exact hv)
  ·
   exact zkl HSR.out HRY.out v (by rw[←HY.out];exact hv)
 have hlen:es.length≤1073741824:=by
  have:=zoT hpm.nodup hbnd
  rw[List.length_map] at this
  omega
 have HSK:=hid (znR hmap hlen hpm.nodup fun p hp=>by have:=hbnd p hp;unfold zcS;omega)
 have HBND:=hid hbnd
 have HMAP:=hid hmap
 have HPM:=hid hpm
 have HXA:=hid hxa
 have HYA:=hid hya
 have HR1:Hid (r<w1.heap.size):=(Array.getElem?_eq_some_iff.1 hmap).1
 clear hbnd hlen hmap hpm hxa hya hb1 c00 c01 c10 c11 cl HPR HW0 HB0
 refine (zrD (some r) w1).mono ?_
 rintro e w2 ⟨rfl,rfl⟩
 go_wp2_with fail
 refine HSK.out.mono ?_
 rintro e w3 ⟨v6,ss,rfl,hperm,hrow,hb3⟩
 obtain⟨K,HK⟩:∃ K:List Int,Hid (K=ss.mergeSort fun x y=>decide (x≤y)):=⟨_,rfl⟩
 have hI3:za8 w3 (w1.heap.size+1) v6 K:=by
  unfold za8
  rw[HK.out,List.length_mergeSort]
  exact hrow
 have HKR:=hid (zmG HPM.out.nodup hperm)
 rw[←HK.out] at HKR
 have hb13:Below w1.heap.size w1 w3:=((Below.refl w1.heap.size w1).alloc (Nat.le_refl _) (.cells #[.map (some r)] 126)).trans (hb3.mono (by omega))
 have HB13:=hid hb13
 have HB3:=hid (HB1.out.trans (hb13.mono HB1.out.size))
 obtain⟨va,vc,rfl⟩:=hI3.form
 have hKn:K.length≤536870911:=zoT (HKR.out.1.imp fun h=>by omega) fun n hn=>HBND.out n ((HKR.out.2 n).1 hn)
 obtain⟨n,HN⟩:∃ n,Hid (n=K.length):=⟨_,rfl⟩
 have HKI:Hid (za1 w3 (.slice va K.length vc) K):=hI3.ints (by omega) fun z hz=>by
  have:=HBND.out z ((HKR.out.2 z).1 hz)
  unfold zcS
  omega
 rw[←HN.out] at HKI hKn ⊢
 obtain⟨g,HG⟩:∃ g:Int→List (List Int),Hid (g=fun z=>zeE (zaX s a b) (zhD a b) (zbE a b) (fs.getD (zae fs z).toNat .zero) (zb9 X z) (zb9 Y z)):=⟨_,rfl⟩
 have HDW:Hid (zaX s (a+1) (b+1) (m:Int) x y=K.flatMap g):=by
  have h:=zrs HSR.out HROOT.out HRX.out HRY.out HKR.out.1 (fun z=>((HKR.out.2 z).trans (HPM.out.keys z)).trans (by rw[HX.out,HY.out]))
  rw[Int.toNat_natCast,←HFS.out,←HX.out,←HY.out] at h
  rw[Hid,h,HG.out]
 have HCN:Hid (∀ k,((K.take k).flatMap g).length≤1099511627776):=fun k=>by
  have h1:=zmE g K k
  have h2:=HCNT.out
  rw[HDW.out] at h2
  omega
 clear hrow hperm hb3 hI3 hb13 HSK HCNT HK
 go_wp2_with fail
 go_loopw [9,27] (fun v9 v27 wr=>∃ (k on:Nat) (oa:Option Addr) (oc:Nat),v27= .int .i64 (k:Int)∧v9= .slice oa on oc∧k≤n∧on≤1099511627776∧Hid (zaf zjt 50 1 0 w3.heap.size wr (.slice oa on oc) ((K.take k).flatMap g)∧((K.take k).flatMap g).length=on∧Below w3.heap.size w3 wr)) (fun _ v27 _=>n - (intOf v27).toNat)
 case atStart=>exact⟨0,0,none,0,rfl,rfl,by omega,by omega,zaf.nil _ _ _ _ _ _,rfl,Below.refl _ _⟩
 case round =>
  obtain⟨k,on,oa,oc,rfl,rfl,hk,hon,HI⟩:=hrel
  obtain⟨wo,HWO⟩:∃ wo:World,Hid (wo=wr):=⟨_,rfl⟩
  by_cases hlt:k<n
  ·
   obtain⟨z,hz⟩:∃ z,K[k]?=some z:=⟨_,List.getElem?_eq_getElem (by rw[←HN.out];exact hlt)⟩
   have hzK:=(HKR.out.2 z).1 (List.mem_of_getElem? hz)
   have hzb:=HBND.out z hzK
   have HTK:Hid ((K.take (k+1)).flatMap g=(K.take k).flatMap g++g z):=zpU g hz
   have hbr3:Below w3.heap.size w3 wr:=HI.out.2.2
   have hb0r:Below w.heap.size w wr:=HB3.out.trans (hbr3.mono HB3.out.size)
   have hb1r:Below w1.heap.size w1 wr:=HB13.out.trans (hbr3.mono HB13.out.size)
   obtain⟨kb,ko,hva,hkc⟩:∃ kb ko,va=some ⟨kb,ko,none⟩∧w3.cell? ⟨kb,ko+k,none⟩=some (.int .i64 z):=by
    obtain⟨-,a',c',e,-,hkat⟩:=HKI.out.open
    obtain⟨-,b',o',h1,h2⟩:=hkat k z hz
    injection e with e1 e2 e3
    exact⟨b',o',by rw[e1];exact h1,h2⟩
   replace hkc:=zaa hbr3 _ _ hkc
   have hixk:=zaj Tryz.underlying50 zcZ hva k hlt (cap:=vc)
   obtain⟨q,hfq,hqn,hfn⟩:∃ q:Nat,zae fs z=(q:Int)∧q<fs.length∧(fs.getD q .zero).number=z:=by
    have key:0≤zae fs z∧zae fs z<fs.length∧(fs.getD (zae fs z).toNat .zero).number=z:=by
     rcases (HPM.out.keys z).1 hzK with ⟨v,hv,e⟩|⟨v,hv,e⟩
     ·
      rw[HX.out] at hv
      obtain⟨h1,h2,h3,-⟩:=(zbH HRX.out).at' v hv
      rw[Int.toNat_natCast,←HFS.out] at h1 h2 h3
      unfold qOf at h1 h2 h3
      rw[e] at h1 h2 h3
      exact⟨h1,h2,h3⟩
     ·
      rw[HY.out] at hv
      obtain⟨h1,h2,h3,-⟩:=(zbH HRY.out).at' v hv
      rw[Int.toNat_natCast,←HFS.out] at h1 h2 h3
      unfold qOf at h1 h2 h3
      rw[e] at h1 h2 h3
      exact⟨h1,h2,h3⟩
    exact⟨(zae fs z).toNat,by omega,by omega,key.2.2⟩
   obtain⟨f,HF⟩:∃ f,Hid (f=fs.getD q .zero):=⟨_,rfl⟩
   have HGZ:Hid (g z=zeE (zaX s a b) (zhD a b) (zbE a b) f (zb9 X z) (zb9 Y z)):=by
    rw[Hid,HG.out]
    simp only
    rw[hfq,Int.toNat_natCast,←HF.out]
   have HFZ:Hid (f.number=z):=by rw[Hid,HF.out];exact hfn
   have HFITX:Hid (∀ v,zb9 X z=some v→zcB (zav s a) f v=true):=fun v hg=>by
    have h:=zh5 (znP HSR.out) HROOT.out HRX.out (i:=(q:Int)) (v:=v) ⟨by omega,by rw[Int.toNat_natCast,←HFS.out];omega⟩
    rw[Int.toNat_natCast,Int.toNat_natCast,←HFS.out,←HF.out,←HX.out,HFZ.out] at h
    exact h hg
   have HFITY:Hid (∀ v,zb9 Y z=some v→zcB (zav s b) f v=true):=fun v hg=>by
    have h:=zh5 (znP HSR.out) HROOT.out HRY.out (i:=(q:Int)) (v:=v) ⟨by omega,by rw[Int.toNat_natCast,←HFS.out];omega⟩
    rw[Int.toNat_natCast,Int.toNat_natCast,←HFS.out,←HF.out,←HY.out,HFZ.out] at h
    exact h hg
   have HBN:Hid (Calls Tryz.prog 67 #[.agg #[.string nm,.slice fa fn fc],.int .i64 z] wr fun e w'=>e= .returned (.tuple #[.int .i64 (q:Int),.bool true])∧Below wr.heap.size wr w'):=by
    have h:=zdu (HFT0.out.below hb0r) nm z
    rw[hfq,if_pos (by omega),decide_eq_true (by omega)] at h
    exact h
   obtain⟨fb,fo,hfa,hfok,g0,g1,g2,g3,g4,g5⟩:=HFAT.out q hqn
   rw[←HF.out] at hfok g0 g1 g2 g3 g4 g5
   have hqfn:q<fn:=by rw[HFN.out];exact hqn
   have HFLD:Hid (∀ W,Below w.heap.size w W→W.cell? ⟨sb,so+m*2,none⟩=some (.string nm)∧W.cell? ⟨sb,so+m*2+1,none⟩=some (.slice fa fn fc)∧W.cell? ⟨fb,fo+q*6,none⟩=some (.string f.name)∧W.cell? ⟨fb,fo+q*6+1,none⟩=some (.int .i64 f.number)∧W.cell? ⟨fb,fo+q*6+2,none⟩=some (.int .i64 f.kind)∧W.cell? ⟨fb,fo+q*6+3,none⟩=some (.bool f.rep)∧W.cell? ⟨fb,fo+q*6+4,none⟩=some (.bool f.packed)∧W.cell? ⟨fb,fo+q*6+5,none⟩=some (.int .i64 f.of)):=fun W hW =>
    ⟨zaa hW _ _ HC01.out.1,zaa hW _ _ HC01.out.2,zaa hW _ _ g0,zaa hW _ _ g1,zaa hW _ _ g2,zaa hW _ _ g3,zaa hW _ _ g4,zaa hW _ _ g5⟩
   have hixs:=zau Tryz.underlying23 zfm rfl m hm (a:=some ⟨sb,so,none⟩) (cap:=sc)
   have hixf:=zau Tryz.underlying74 zcY hfa q hqfn (cap:=fc)
   have c0:=(HFLD.out wr hb0r).1
   have c1:=(HFLD.out wr hb0r).2.1
   have HB0R:=hid hb0r
   have HB1R:=hid hb1r
   have HZ:=hid hz
   have HZK:=hid hzK
   have HFOK:=hid hfok
   have HIXF:=hid hixf
   have HHFA:=hid hfa
   clear hz hzK hbr3 hb0r hb1r g0 g1 g2 g3 g4 g5 hfok hfq hfn hqn hva hixf hfa
   go_upto_region 7 with (go_at_call 67;refine HBN.out.mono ?_;rintro e w4 ⟨rfl,hb4⟩)
   have HB4:=hid (HB0R.out.trans (hb4.mono HB0R.out.size))
   have HB14:=hid (HB1R.out.trans (hb4.mono HB1R.out.size))
   have HB3R4:=hid (HI.out.2.2.trans (hb4.mono HI.out.2.2.size))
   have HB4R:=hid hb4
   obtain⟨pa,HPA⟩:∃ p,Hid (p=pt X bx ox X.length z):=⟨_,rfl⟩
   obtain⟨pb,HPB⟩:∃ p,Hid (p=pt Y by' oy Y.length z):=⟨_,rfl⟩
   have hix0:∀ W:World,(Instr.index 134 (.agg #[.pointer pa,.pointer pb]) (.int .i64 0)).run Tryz.prog W= .ok (.pointer pa) W:=fun W=>by kernel_rfl
   have hix1:∀ W:World,(Instr.index 134 (.agg #[.pointer pa,.pointer pb]) (.int .i64 1)).run Tryz.prog W= .ok (.pointer pb) W:=fun W=>by kernel_rfl
   have HV7:Hid (∀ W,Below w4.heap.size w4 W→(W.cell? ⟨sb,so+m*2,none⟩=some (.string nm)∧W.cell? ⟨sb,so+m*2+1,none⟩=some (.slice fa fn fc)∧W.cell? ⟨fb,fo+q*6,none⟩=some (.string f.name)∧W.cell? ⟨fb,fo+q*6+1,none⟩=some (.int .i64 f.number)∧W.cell? ⟨fb,fo+q*6+2,none⟩=some (.int .i64 f.kind)∧W.cell? ⟨fb,fo+q*6+3,none⟩=some (.bool f.rep)∧W.cell? ⟨fb,fo+q*6+4,none⟩=some (.bool f.packed)∧W.cell? ⟨fb,fo+q*6+5,none⟩=some (.int .i64 f.of))∧(Instr.lookup 126 (.map (some r)) (.int .i64 z) false).run Tryz.prog W= .ok (.agg #[.pointer pa,.pointer pb]) W):=fun W hW=>by
    have h1:=zf9 (zdX HMAP.out (HB14.out.trans (hW.mono HB14.out.size))) z
    rw[HPM.out.pair z,←HPA.out,←HPB.out] at h1
    exact⟨HFLD.out W (HB4.out.trans (hW.mono HB4.out.size)),h1⟩
   have q1:=HV7.out w4.drew (Below.refl _ _).drew
   have hixf:=HIXF.out
   have hfa:=HHFA.out
   clear c0 c1 hb4 hkc hixk HBN
   refine zeC (fun w'=>(w'.cell? ⟨sb,so+m*2,none⟩=some (.string nm)∧w'.cell? ⟨sb,so+m*2+1,none⟩=some (.slice fa fn fc)∧w'.cell? ⟨fb,fo+q*6,none⟩=some (.string f.name)∧w'.cell? ⟨fb,fo+q*6+1,none⟩=some (.int .i64 f.number)∧w'.cell? ⟨fb,fo+q*6+2,none⟩=some (.int .i64 f.kind)∧w'.cell? ⟨fb,fo+q*6+3,none⟩=some (.bool f.rep)∧w'.cell? ⟨fb,fo+q*6+4,none⟩=some (.bool f.packed)∧w'.cell? ⟨fb,fo+q*6+5,none⟩=some (.int .i64 f.of))∧(Instr.lookup 126 (.map (some r)) (.int .i64 z) false).run Tryz.prog w'= .ok (.agg #[.pointer pa,.pointer pb]) w') (fun _=>True) 16 [0,0,0,0,0,0,0,0,0,0,0,0,0,0,0,0,2,2,0,0] (by kernel_rfl) rfl (by kernel_rfl) (fun _ _ dst _ _ h=>by cases dst <;> exact h) q1 trivial (fun OPS _=>?_)
   clear q1
   refine zaV (v:=?v0) ?hy0 ?hr0
   case hy0=>(intro w hw;go_simp;all_goals rfl)
   simp only[Act.put,pzC,pzD,pzE]
   refine zaV (v:=?v1) ?hy1 ?hr1
   case hy1=>(intro w hw;go_simp;all_goals rfl)
   simp only[Act.put,pzC,pzD,pzE]
   refine zaV (v:=?v2) ?hy2 ?hr2
   case hy2=>(intro w hw;go_simp;all_goals rfl)
   simp only[Act.put,pzC,pzD,pzE]
   refine zaV (v:=?v3) ?hy3 ?hr3
   case hy3=>(intro w hw;go_simp;all_goals rfl)
   simp only[Act.put,pzC,pzD,pzE]
   refine zaV (v:=?v4) ?hy4 ?hr4
   case hy4=>(intro w hw;go_simp;all_goals rfl)
   simp only[Act.put,pzC,pzD,pzE]
   refine zaV (v:=?v5) ?hy5 ?hr5
   case hy5=>(intro w hw;go_simp;all_goals rfl)
   simp only[Act.put,pzC,pzD,pzE]
   refine zaV (v:=?v6) ?hy6 ?hr6
   case hy6=>(intro w hw;go_simp;all_goals rfl)
   simp only[Act.put,pzC,pzD,pzE]
   refine zaV (v:=?v7) ?hy7 ?hr7
   case hy7=>(intro w hw;go_simp;all_goals rfl)
   simp only[Act.put,pzC,pzD,pzE]
   refine zaV (v:=?v8) ?hy8 ?hr8
   case hy8=>(intro w hw;go_simp;all_goals rfl)
   simp only[Act.put,pzC,pzD,pzE]
   refine zaV (v:=?v9) ?hy9 ?hr9
   case hy9=>(intro w hw;go_simp;all_goals rfl)
   simp only[Act.put,pzC,pzD,pzE]
   refine zaV (v:=?v10) ?hy10 ?hr10
   case hy10=>(intro w hw;go_simp;all_goals rfl)
   simp only[Act.put,pzC,pzD,pzE]
   refine zaV (v:=?v11) ?hy11 ?hr11
   case hy11=>(intro w hw;go_simp;all_goals rfl)
   simp only[Act.put,pzC,pzD,pzE]
   refine zaV (v:=?v12) ?hy12 ?hr12
   case hy12=>(intro w hw;go_simp;all_goals rfl)
   simp only[Act.put,pzC,pzD,pzE]
   refine zaV (v:=?v13) ?hy13 ?hr13
   case hy13=>(intro w hw;go_simp;all_goals rfl)
   simp only[Act.put,pzC,pzD,pzE]
   refine zaV (v:=?v14) ?hy14 ?hr14
   case hy14=>(intro w hw;go_simp;all_goals rfl)
   simp only[Act.put,pzC,pzD,pzE]
   refine zaV (v:=?v15) ?hy15 ?hr15
   case hy15=>(intro w hw;go_simp;all_goals rfl)
   simp only[Act.put,pzC,pzD,pzE]
   obtain⟨FB,HFB⟩:∃ b,Hid (b=w4.heap.size):=⟨_,rfl⟩
   obtain⟨W5,HW5⟩:∃ W,Hid (W=(w4.alloc (.cells #[.string ⟨#[]⟩,.int .i64 0,.int .i64 0,.bool false,.bool false,.int .i64 0] 73)).drew):=⟨_,rfl⟩
   have hb5:Below w4.heap.size w4 W5:=by rw[HW5.out];(with_reducible repeat first|exact Below.refl _ _|refine pzA ?_ _|refine pzB ?_ _|refine zab ?_ _|refine Below.drew ?_)
   have hk5:Blk W5 FB [.string ⟨#[]⟩,.int .i64 0,.int .i64 0,.bool false,.bool false,.int .i64 0] 73:=by rw[HW5.out,HFB.out];exact Blk.new w4 [.string ⟨#[]⟩,.int .i64 0,.int .i64 0,.bool false,.bool false,.int .i64 0] _
   obtain⟨W6,HW6⟩:∃ W,Hid (W=((((((W5.setCell ⟨FB,0,none⟩ (.string f.name)).setCell ⟨FB,1,none⟩ (.int .i64 f.number)).setCell ⟨FB,2,none⟩ (.int .i64 f.kind)).setCell ⟨FB,3,none⟩ (.bool f.rep)).setCell ⟨FB,4,none⟩ (.bool f.packed)).setCell ⟨FB,5,none⟩ (.int .i64 f.of))):=⟨_,rfl⟩
   have hFB:w4.heap.size≤FB:=by rw[HFB.out];exact Nat.le_refl _
   have hb6:Below w4.heap.size w4 W6:=by rw[HW6.out];exact (((((hb5.setCell hFB _).setCell hFB _).setCell hFB _).setCell hFB _).setCell hFB _).setCell hFB _
   have hk6:Blk W6 FB f.cells 73:=by rw[HW6.out];exact (((((hk5.set 0 (.string f.name)).set 1 (.int .i64 f.number)).set 2 (.int .i64 f.kind)).set 3 (.bool f.rep)).set 4 (.bool f.packed)).set 5 (.int .i64 f.of)
   have d0:=hk5.cell 0 _ rfl
   have d1:=hk5.cell 1 _ rfl
   have d2:=hk5.cell 2 _ rfl
   have d3:=hk5.cell 3 _ rfl
   have d4:=hk5.cell 4 _ rfl
   have d5:=hk5.cell 5 _ rfl
   have e0:=hk5.free 0
   have e1:=hk5.free 1
   have e2:=hk5.free 2
   have e3:=hk5.free 3
   have e4:=hk5.free 4
   have e5:=hk5.free 5
   have dl:=hk5.lt
   have HV5:=hid (HV7.out W5 hb5)
   have HV6:=hid (HV7.out W6 hb6)
   have HB6:=hid (HB4.out.trans (hb6.mono HB4.out.size))
   have HB16:=hid (HB14.out.trans (hb6.mono HB14.out.size))
   have HB36:=hid (HB3R4.out.trans (hb6.mono HB3R4.out.size))
   have HB46:=hid (HB4R.out.trans (hb6.mono HB4R.out.size))
   have HK6:=hid hk6
   clear hb5 hk5 hb6 hk6 hixs hixf hfa hix0 hix1 hqfn
   refine ziJ (fun K12 HK12=>?_)
   go_wp2_with fail
   rw[←HW5.out,←HFB.out]
   refine HK12.out _ _ HV5.out ?_
   clear HK12 K12
   intro _
   refine ziJ (fun K12 HK12=>?_)
   go_wp2_with fail
   rw[←HW6.out]
   refine HK12.out _ _ HV6.out ?_
   clear HK12 K12 d0 d1 d2 d3 d4 d5 e0 e1 e2 e3 e4 e5 dl
   intro _
   refine zaV (v:=?v20) ?hy20 ?hr20
   case hy20=>(intro w hw;go_simp;all_goals rfl)
   simp only[Act.put,pzC,pzD,pzE]
   refine zaV (v:=?v21) ?hy21 ?hr21
   case hy21=>(intro w hw;go_simp;all_goals rfl)
   simp only[Act.put,pzC,pzD,pzE]
   refine zfy ?_
   clear HV7 HV5 HV6 HW5 HW6 HB4R HB3R4 HB14 HB4 HIXF HHFA HFLD HB0R HB1R HFB hFB
   have hok:=HFOK.out
   have HPX:=hid (ztb (b:=bx) (o:=ox) (n:=z) (by have:=(zbH HRX.out).rise;rw[←HX.out] at this;exact this))
   have HPY:=hid (ztb (b:=by') (o:=oy) (n:=z) (by have:=(zbH HRY.out).rise;rw[←HY.out] at this;exact this))
   rw[←HPA.out] at HPX
   rw[←HPB.out] at HPY
   rcases HPX.out with ⟨epa,hgx⟩|⟨i,v,hiv,hvn,epa,hgx⟩
   ·
    rcases HPY.out with ⟨epb,hgy⟩|⟨j,u,hju,hun,epb,hgy⟩
    ·
     exfalso
     rcases (HPM.out.keys z).1 HZK.out with ⟨v,hv,e⟩|⟨v,hv,e⟩
     ·
      exact zmC hgx v hv e
     ·
      exact zmC hgy v hv e
    ·
     have HGD:Hid (g z=[[z]]):=by
      rw[Hid,HGZ.out,hgx,hgy,←HFZ.out];rfl
     rw[epa,epb]
     clear hgx hgy hju hun HPX HPY epa epb
     go_upto_region 9 with fail
     go_quiet (fail)
     obtain⟨W7,HW7⟩:∃ W,Hid (W=W6.drewN nq):=⟨_,rfl⟩
     rw[←HW7.out]
     have HB7:Hid (Below W6.heap.size W6 W7):=by rw[HW7.out];exact zab (Below.refl _ _) _
     clear HW7
     go_upto_region 10 with fail
     go_quiet (fail)
     obtain⟨W8,HW8⟩:∃ W,Hid (W=W7.drewN nq):=⟨_,rfl⟩
     rw[←HW8.out]
     have HB8:Hid (Below W6.heap.size W6 W8):=by rw[HW8.out];exact zab HB7.out _
     clear HW8 HB7
     have hbw8:Below wr.heap.size wr W8:=HB46.out.trans (HB8.out.mono HB46.out.size)
     obtain⟨a8,c8,w9,hr9,hO9,hb9⟩:=ziY (HI.out.1.below hbw8) HI.out.2.1 (Nat.le_trans HI.out.2.2.size hbw8.size) hon (show zcS z by unfold zcS;omega)
     have HREL9:Hid (zaf zjt 50 1 0 w3.heap.size w9 (.slice a8 (on+1) c8) ((K.take (k+1)).flatMap g)∧((K.take (k+1)).flatMap g).length=on+1∧Below w3.heap.size w3 w9):=by
      refine⟨?_,?_,(HB36.out.trans (HB8.out.mono HB36.out.size)).trans hb9⟩
      ·
       rw[HTK.out,HGD.out];exact hO9
      ·
       rw[HTK.out,HGD.out,List.length_append,HI.out.2.1];rfl
     have hon1:on+1≤1099511627776:=by have:=HCN.out (k+1);rw[HREL9.out.2.1] at this;exact this
     clear hbw8 hO9 hb9 HB8 HGD HTK
     go_upto_region 8 with fail
     go_wp2_with (at_builtin;refine zad rfl _ _ _ rfl _ _ rfl rfl hr9 ?_)
     go_roundw
     case rel=>exact⟨k+1,on+1,a8,c8,by go_num,rfl,hlt,hon1,HREL9.out⟩
     case measure=>simp[intOf];omega
   ·
    have HFX:=hid hiv
    have HVH:=hid (zlx HVX.out HXA.out hiv)
    rcases HPY.out with ⟨epb,hgy⟩|⟨j,u,hju,hun,epb,hgy⟩
    ·
     have HGD:Hid (g z=[[z]]):=by
      rw[Hid,HGZ.out,hgx,hgy,←HFZ.out];rfl
     rw[epa,epb]
     clear hgx hgy hvn hiv HPX HPY epa epb
     go_upto_region 9 with fail
     go_quiet (fail)
     obtain⟨W7,HW7⟩:∃ W,Hid (W=W6.drewN nq):=⟨_,rfl⟩
     rw[←HW7.out]
     have HB7:Hid (Below W6.heap.size W6 W7):=by rw[HW7.out];exact zab (Below.refl _ _) _
     clear HW7
     go_upto_region 10 with fail
     go_quiet (fail)
     obtain⟨W8,HW8⟩:∃ W,Hid (W=W7.drewN nq):=⟨_,rfl⟩
     rw[←HW8.out]
     have HB8:Hid (Below W6.heap.size W6 W8):=by rw[HW8.out];exact zab HB7.out _
     clear HW8 HB7
     have hbw8:Below wr.heap.size wr W8:=HB46.out.trans (HB8.out.mono HB46.out.size)
     obtain⟨a8,c8,w9,hr9,hO9,hb9⟩:=ziY (HI.out.1.below hbw8) HI.out.2.1 (Nat.le_trans HI.out.2.2.size hbw8.size) hon (show zcS z by unfold zcS;omega)
     have HREL9:Hid (zaf zjt 50 1 0 w3.heap.size w9 (.slice a8 (on+1) c8) ((K.take (k+1)).flatMap g)∧((K.take (k+1)).flatMap g).length=on+1∧Below w3.heap.size w3 w9):=by
      refine⟨?_,?_,(HB36.out.trans (HB8.out.mono HB36.out.size)).trans hb9⟩
      ·
       rw[HTK.out,HGD.out];exact hO9
      ·
       rw[HTK.out,HGD.out,List.length_append,HI.out.2.1];rfl
     have hon1:on+1≤1099511627776:=by have:=HCN.out (k+1);rw[HREL9.out.2.1] at this;exact this
     clear hbw8 hO9 hb9 HB8 HGD HTK
     go_upto_region 8 with fail
     go_wp2_with (at_builtin;refine zad rfl _ _ _ rfl _ _ rfl rfl hr9 ?_)
     go_roundw
     case rel=>exact⟨k+1,on+1,a8,c8,by go_num,rfl,hlt,hon1,HREL9.out⟩
     case measure=>simp[intOf];omega
    ·
     obtain⟨wa,wn,wc,ta,tn,tc,ca,cn,cc,hvx⟩:=zlx HVX.out HXA.out hiv
     obtain⟨wa2,wn2,wc2,ta2,tn2,tc2,ca2,cn2,cc2,hvy⟩:=zlx HVY.out HYA.out hju
     obtain⟨c,HC⟩:∃ c,Hid (c=zcm (zbE a b) v u):=⟨_,rfl⟩
     have HGX:=hid hgx
     have HGY:=hid hgy
     have HV1:=hid hvx
     have HU1:=hid hvy
     have HSM:Hid (∀ W g h,Below W6.heap.size W6 W→Blk W g [.int .i64 v.num,.slice wa wn wc,.slice ta tn tc,.slice ca cn cc] 81→Blk W h [.int .i64 u.num,.slice wa2 wn2 wc2,.slice ta2 tn2 tc2,.slice ca2 cn2 cc2] 81 →
       Calls Tryz.prog 68 #[.agg #[.slice (some ⟨g,0,none⟩) 1 1,.slice none 0 0],.agg #[.slice (some ⟨h,0,none⟩) 1 1,.slice none 0 0]] W fun e w'=>e= .returned (.bool c)∧Below W.heap.size W w'):=fun W g h hW h1 h2=>by
      rw[HC.out]
      have hWw:=HB6.out.trans (hW.mono HB6.out.size)
      exact zsD h1 h2 (VMsg.below HV1.out.val hWw) (VMsg.below HU1.out.val hWw)
     have HS1:=hid (HSM.out ((W6.alloc (.cells #[.int .i64 v.num,.slice wa wn wc,.slice ta tn tc,.slice ca cn cc] 81)).alloc (.cells #[.int .i64 u.num,.slice wa2 wn2 wc2,.slice ta2 tn2 tc2,.slice ca2 cn2 cc2] 81)).drew W6.heap.size (W6.heap.size+1) (by (with_reducible repeat first|exact Below.refl _ _|refine pzA ?_ _|refine pzB ?_ _|refine zab ?_ _|refine Below.drew ?_)) (Blk.alloc (Blk.new W6 [.int .i64 v.num,.slice wa wn wc,.slice ta tn tc,.slice ca cn cc] 81) _) (Blk.new' _ [.int .i64 u.num,.slice wa2 wn2 wc2,.slice ta2 tn2 tc2,.slice ca2 cn2 cc2] 81 _ (by simp)))
     have HS2:=hid (HSM.out ((W6.alloc (.cells #[.int .i64 u.num,.slice wa2 wn2 wc2,.slice ta2 tn2 tc2,.slice ca2 cn2 cc2] 81)).alloc (.cells #[.int .i64 v.num,.slice wa wn wc,.slice ta tn tc,.slice ca cn cc] 81)).drew (W6.heap.size+1) W6.heap.size (by (with_reducible repeat first|exact Below.refl _ _|refine pzA ?_ _|refine pzB ?_ _|refine zab ?_ _|refine Below.drew ?_)) (Blk.new' _ [.int .i64 v.num,.slice wa wn wc,.slice ta tn tc,.slice ca cn cc] 81 _ (by simp)) (Blk.alloc (Blk.new W6 [.int .i64 u.num,.slice wa2 wn2 wc2,.slice ta2 tn2 tc2,.slice ca2 cn2 cc2] 81) _))
     have HW12:Hid (Below W6.heap.size W6 ((W6.alloc (.cells #[.int .i64 v.num,.slice wa wn wc,.slice ta tn tc,.slice ca cn cc] 81)).alloc (.cells #[.int .i64 u.num,.slice wa2 wn2 wc2,.slice ta2 tn2 tc2,.slice ca2 cn2 cc2] 81)).drew∧Below W6.heap.size W6 ((W6.alloc (.cells #[.int .i64 u.num,.slice wa2 wn2 wc2,.slice ta2 tn2 tc2,.slice ca2 cn2 cc2] 81)).alloc (.cells #[.int .i64 v.num,.slice wa wn wc,.slice ta tn tc,.slice ca cn cc] 81)).drew):=⟨by (with_reducible repeat first|exact Below.refl _ _|refine pzA ?_ _|refine pzB ?_ _|refine zab ?_ _|refine Below.drew ?_),by (with_reducible repeat first|exact Below.refl _ _|refine pzA ?_ _|refine pzB ?_ _|refine zab ?_ _|refine Below.drew ?_)⟩
     have h1:=hvx.below HB6.out
     have h2:=hvy.below HB6.out
     have q0:W6.drew.cell? ⟨bx,ox+i*4,none⟩=some (.int .i64 v.num)∧W6.drew.cell? ⟨bx,ox+i*4+1,none⟩=some (.slice wa wn wc)∧W6.drew.cell? ⟨bx,ox+i*4+2,none⟩=some (.slice ta tn tc)∧W6.drew.cell? ⟨bx,ox+i*4+3,none⟩=some (.slice ca cn cc)∧W6.drew.cell? ⟨by',oy+j*4,none⟩=some (.int .i64 u.num)∧W6.drew.cell? ⟨by',oy+j*4+1,none⟩=some (.slice wa2 wn2 wc2)∧W6.drew.cell? ⟨by',oy+j*4+2,none⟩=some (.slice ta2 tn2 tc2)∧W6.drew.cell? ⟨by',oy+j*4+3,none⟩=some (.slice ca2 cn2 cc2):=⟨h1.c0,h1.c1,h1.c2,h1.c3,h2.c0,h2.c1,h2.c2,h2.c3⟩
     rw[epa,epb]
     clear hvx hvy h1 h2 hgx hgy hiv hju hvn hun epa epb HPX HPY HSM
     go_upto_region 9 with fail
     go_cut [61] from 62 to 80 (fun s61 wx=>s61= .bool c∧Hid (Below W6.heap.size W6 wx))
     case first =>
      clear HTK HGZ HFZ HFITX HFITY HZ HZK HFOK HPA HPB HB16 HB36 HB46 HK6 HVH HFX HC HGX HGY HI HBND HMAP HPM HXA HYA HKI HFAT HFT0 HC01 HIH HVX HVY HRX HRY HSR HROOT HQ HX HY HXN HYN HB HFS HSN HS HNM HFN HMW HB1 HR1 HKR HB13 HB3 HN HG HDW HCN hok HF
      go_region_held3 (fun w'=>w'.cell? ⟨bx,ox+i*4,none⟩=some (.int .i64 v.num)∧w'.cell? ⟨bx,ox+i*4+1,none⟩=some (.slice wa wn wc)∧w'.cell? ⟨bx,ox+i*4+2,none⟩=some (.slice ta tn tc)∧w'.cell? ⟨bx,ox+i*4+3,none⟩=some (.slice ca cn cc)∧w'.cell? ⟨by',oy+j*4,none⟩=some (.int .i64 u.num)∧w'.cell? ⟨by',oy+j*4+1,none⟩=some (.slice wa2 wn2 wc2)∧w'.cell? ⟨by',oy+j*4+2,none⟩=some (.slice ta2 tn2 tc2)∧w'.cell? ⟨by',oy+j*4+3,none⟩=some (.slice ca2 cn2 cc2)) (first|(with_reducible exact q0)|(refine (fun (hb:Below W6.heap.size W6 _)=>⟨zaa hb _ _ q0.1,zaa hb _ _ q0.2.1,zaa hb _ _ q0.2.2.1,zaa hb _ _ q0.2.2.2.1,zaa hb _ _ q0.2.2.2.2.1,zaa hb _ _ q0.2.2.2.2.2.1,zaa hb _ _ q0.2.2.2.2.2.2.1,zaa hb _ _ q0.2.2.2.2.2.2.2⟩) ?_;(with_reducible repeat first|exact Below.refl _ _|refine pzA ?_ _|refine pzB ?_ _|refine zab ?_ _|refine Below.drew ?_);first|done|exact HB7.out)) (first
       | (go_at_call 68;(with_reducible refine HS1.out.mono ?_);rintro e w7 ⟨rfl,hb7⟩;have HB7:=hid (HW12.out.1.trans (hb7.mono HW12.out.1.size)))
       | (go_at_call 68;(with_reducible refine HS2.out.mono ?_);rintro e w7 ⟨rfl,hb7⟩;have HB7:=hid (HW12.out.2.trans (hb7.mono HW12.out.2.size))))
      all_goals
       go_wp2_with fail
       go_meet
       case rel=>exact⟨rfl,HB7.out⟩
     case rest =>
      obtain⟨rfl,HB7⟩:=hcut
      obtain⟨w7,hw7⟩:∃ W,W=wc:=⟨wc,rfl⟩
      subst hw7
      clear HS1 HS2 HW12 q0
      have hk7:=HK6.out.below HB7.out
      have k2:=hk7.cell 2 _ rfl
      have k3:=hk7.cell 3 _ rfl
      have kl:=hk7.lt
      clear hk7
      cases c with
      | true =>
       have HREL9:Hid (zaf zjt 50 1 0 w3.heap.size w7 (.slice oa on oc) ((K.take (k+1)).flatMap g)∧((K.take (k+1)).flatMap g).length=on∧Below w3.heap.size w3 w7):=by
        have e:(K.take (k+1)).flatMap g=(K.take k).flatMap g:=by rw[HTK.out,HGZ.out,HGX.out,HGY.out,zbc,if_pos HC.out.symm,List.append_nil]
        rw[e]
        exact⟨HI.out.1.below (HB46.out.trans (HB7.out.mono HB46.out.size)),HI.out.2.1,HB36.out.trans (HB7.out.mono HB36.out.size)⟩
       clear HB7 HC HTK
       go_wp2_with fail
       go_roundw
       case rel=>exact⟨k+1,on,oa,oc,by go_num,rfl,hlt,hon,HREL9.out⟩
       case measure=>simp[intOf];omega
      | false =>
       by_cases h17:f.kind=17
       ·
        cases hrep:f.rep with
        | true =>
         have HGD:Hid (g z=[[z]]):=by
          rw[Hid,HGZ.out,HGX.out,HGY.out,ziS HC.out.symm (fun h=>by rw[hrep] at h;cases h.2),HFZ.out]
         rw[h17] at k2
         rw[hrep] at k3
         clear hrep h17
         go_upto_region 10 with fail
         go_quiet (fail)
         obtain⟨W8,HW8⟩:∃ W,Hid (W=w7.drewN nq):=⟨_,rfl⟩
         rw[←HW8.out]
         have HB8:Hid (Below W6.heap.size W6 W8):=by rw[HW8.out];exact zab HB7.out _
         clear HW8 HB7
         have hbw8:Below wr.heap.size wr W8:=HB46.out.trans (HB8.out.mono HB46.out.size)
         obtain⟨a8,c8,w9,hr9,hO9,hb9⟩:=ziY (HI.out.1.below hbw8) HI.out.2.1 (Nat.le_trans HI.out.2.2.size hbw8.size) hon (show zcS z by unfold zcS;omega)
         have HREL9:Hid (zaf zjt 50 1 0 w3.heap.size w9 (.slice a8 (on+1) c8) ((K.take (k+1)).flatMap g)∧((K.take (k+1)).flatMap g).length=on+1∧Below w3.heap.size w3 w9):=by
          refine⟨?_,?_,(HB36.out.trans (HB8.out.mono HB36.out.size)).trans hb9⟩
          ·
           rw[HTK.out,HGD.out];exact hO9
          ·
           rw[HTK.out,HGD.out,List.length_append,HI.out.2.1];rfl
         have hon1:on+1≤1099511627776:=by have:=HCN.out (k+1);rw[HREL9.out.2.1] at this;exact this
         clear hbw8 hO9 hb9 HB8 HGD HTK
         go_upto_region 8 with fail
         go_wp2_with (at_builtin;refine zad rfl _ _ _ rfl _ _ rfl rfl hr9 ?_)
         go_roundw
         case rel=>exact⟨k+1,on+1,a8,c8,by go_num,rfl,hlt,hon1,HREL9.out⟩
         case measure=>simp[intOf];omega
        | false =>
         obtain⟨-,-,p,hps,hrp⟩:=zh4 (HFITX.out v HGX.out) h17 hrep
         obtain⟨-,-,p2,hps2,hrp2⟩:=zh4 (HFITY.out u HGY.out) h17 hrep
         obtain⟨hcn,sb1,so1,m1,n1,q1,ua1,un1,uc1,hca,s0,s1,hMp⟩:=zrv HV1.out hps
         obtain⟨hcn2,sb2,so2,m2,n2,q2,ua3,un3,uc3,hca2,s2,s3,hMq⟩:=zrv HU1.out hps2
         have hbw7:Below w.heap.size w w7:=HB6.out.trans (HB7.out.mono HB6.out.size)
         have hkw:=zaa hbw7
         obtain⟨d,HD⟩:∃ d,Hid (d=zhD a b p p2):=⟨_,rfl⟩
         have HGD2:Hid (g z=if d=true then (zaX s a b f.of p p2).map (z :: ·) else [[z]]):=by
          rw[Hid,HGZ.out,HGX.out,HGY.out,zpN HC.out.symm hps hps2 h17 hrep,HFZ.out,←HD.out]
         have HEQ:=hid (zoS (hMp.below (hbw7.drew)) (hMq.below (hbw7.drew)))
         rw[←HD.out] at HEQ
         have HMP:=hid hMp
         have HPW:Hid (mwt a p≤mwt (a+1) x∧mwt b p2≤mwt (b+1) y):=by
          have h1:=zh6 (mwt a) hps
          have h2:=zh6 (mwt b) hps2
          have h3:=zlz (x:=x) (by have:=(zbY HGX.out).1;rw[HX.out] at this;exact this)
          have h4:=zlz (x:=y) (by have:=(zbY HGY.out).1;rw[HY.out] at this;exact this)
          exact⟨by omega,by omega⟩
         have HMQ:=hid hMq
         have HRP:=hid hrp
         have HRQ:=hid hrp2
         have HS0:=hid (And.intro s0 s2)
         have HS1':=hid (And.intro s1 s3)
         have hixa:∀ W:World,(Instr.indexAt 79 (.slice ca cn cc) (.int .i64 0)).run Tryz.prog W= .ok (.pointer (some ⟨sb1,so1,none⟩)) W:=fun W=>by have h:=zau Tryz.underlying79 zep hca 0 hcn (cap:=cc) W;rw[Nat.zero_mul,Nat.add_zero] at h;exact h
         have hixb:∀ W:World,(Instr.indexAt 79 (.slice ca2 cn2 cc2) (.int .i64 0)).run Tryz.prog W= .ok (.pointer (some ⟨sb2,so2,none⟩)) W:=fun W=>by have h:=zau Tryz.underlying79 zep hca2 0 hcn2 (cap:=cc2) W;rw[Nat.zero_mul,Nat.add_zero] at h;exact h
         rw[h17] at k2
         rw[hrep] at k3
         have q0:w7.drew.cell? ⟨FB,2,none⟩=some (.int .i64 17)∧w7.drew.cell? ⟨FB,3,none⟩=some (.bool false)∧w7.drew.cell? ⟨bx,ox+i*4+3,none⟩=some (.slice ca cn cc)∧w7.drew.cell? ⟨by',oy+j*4+3,none⟩=some (.slice ca2 cn2 cc2)∧w7.drew.cell? ⟨sb1,so1+1,none⟩=some (.slice ua1 un1 uc1)∧w7.drew.cell? ⟨sb2,so2+1,none⟩=some (.slice ua3 un3 uc3):=⟨k2,k3,hkw _ _ HV1.out.c3,hkw _ _ HU1.out.c3,hkw _ _ s1,hkw _ _ s3⟩
         have HBD7:=hid ((Below.refl w7.heap.size w7).drew)
         clear hps hps2 hMp hMq s0 s1 s2 s3 hbw7 hkw hrp hrp2 hrep h17 HGY HGX HC HD HGZ
         go_upto_region 10 with fail
         go_region_held3 (fun w'=>w'.cell? ⟨FB,2,none⟩=some (.int .i64 17)∧w'.cell? ⟨FB,3,none⟩=some (.bool false)∧w'.cell? ⟨bx,ox+i*4+3,none⟩=some (.slice ca cn cc)∧w'.cell? ⟨by',oy+j*4+3,none⟩=some (.slice ca2 cn2 cc2)∧w'.cell? ⟨sb1,so1+1,none⟩=some (.slice ua1 un1 uc1)∧w'.cell? ⟨sb2,so2+1,none⟩=some (.slice ua3 un3 uc3)) (first|(with_reducible exact q0)|(with_reducible exact q1)) (first
          | (go_at_call 32;(with_reducible refine HEQ.out.mono ?_);rintro e W8 ⟨rfl,hd8⟩;have hb78:=HBD7.out.trans hd8.below;have q1:W8.cell? ⟨FB,2,none⟩=some (.int .i64 17)∧W8.cell? ⟨FB,3,none⟩=some (.bool false)∧W8.cell? ⟨bx,ox+i*4+3,none⟩=some (.slice ca cn cc)∧W8.cell? ⟨by',oy+j*4+3,none⟩=some (.slice ca2 cn2 cc2)∧W8.cell? ⟨sb1,so1+1,none⟩=some (.slice ua1 un1 uc1)∧W8.cell? ⟨sb2,so2+1,none⟩=some (.slice ua3 un3 uc3):=⟨zaa hb78 _ _ q0.1,zaa hb78 _ _ q0.2.1,zaa hb78 _ _ q0.2.2.1,zaa hb78 _ _ q0.2.2.2.1,zaa hb78 _ _ q0.2.2.2.2.1,zaa hb78 _ _ q0.2.2.2.2.2⟩;have HB8:=hid (HB7.out.trans (hb78.mono HB7.out.size))))
         clear q1 q0 k2 k3 kl HEQ HB7 HBD7 hb78 hd8
         cases d with
         | false =>
          have HGD:Hid (g z=[[z]]):=HGD2.out
          clear HGD2 hixa hixb
          have hbw8:Below wr.heap.size wr W8:=HB46.out.trans (HB8.out.mono HB46.out.size)
          obtain⟨a8,c8,w9,hr9,hO9,hb9⟩:=ziY (HI.out.1.below hbw8) HI.out.2.1 (Nat.le_trans HI.out.2.2.size hbw8.size) hon (show zcS z by unfold zcS;omega)
          have HREL9:Hid (zaf zjt 50 1 0 w3.heap.size w9 (.slice a8 (on+1) c8) ((K.take (k+1)).flatMap g)∧((K.take (k+1)).flatMap g).length=on+1∧Below w3.heap.size w3 w9):=by
           refine⟨?_,?_,(HB36.out.trans (HB8.out.mono HB36.out.size)).trans hb9⟩
           ·
            rw[HTK.out,HGD.out];exact hO9
           ·
            rw[HTK.out,HGD.out,List.length_append,HI.out.2.1];rfl
          have hon1:on+1≤1099511627776:=by have:=HCN.out (k+1);rw[HREL9.out.2.1] at this;exact this
          clear hbw8 hO9 hb9 HB8 HGD HTK
          go_upto_region 8 with fail
          go_wp2_with (at_builtin;refine zad rfl _ _ _ rfl _ _ rfl rfl hr9 ?_)
          go_roundw
          case rel=>exact⟨k+1,on+1,a8,c8,by go_num,rfl,hlt,hon1,HREL9.out⟩
          case measure=>simp[intOf];omega
         | true =>
          obtain⟨L,HL⟩:∃ L,Hid (L=zaX s a b f.of p p2):=⟨_,rfl⟩
          have HGL:Hid (g z=L.map (z :: ·)):=by rw[HL.out];exact HGD2.out
          have hLn:L.length≤1099511627776:=by
           have h1:=HCN.out (k+1)
           rw[HTK.out,HGL.out,List.length_append,List.length_map] at h1
           omega
          have hbw8:Below w.heap.size w W8:=HB6.out.trans (HB8.out.mono HB6.out.size)
          have hkw:=zaa hbw8
          have hbd8:Below w.heap.size w W8.drew:=hbw8.drew
          have hpw:mwt a p+mwt b p2≤1099511627776:=by
           have h1:=HPW.out.1
           have h2:=HPW.out.2
           have h3:=HMW.out
           omega
          have HREC:=hid (HIH.out W8.drew _ _ _ f.of p p2 (HS.out.below hbd8) (HMP.out.below hbd8) (HMQ.out.below hbd8) HRP.out HRQ.out hpw)
          have HLL:Hid (∀ t∈L,t.length≤1099511627776):=fun t ht=>by
           rw[HL.out] at ht
           have:=ziV a b f.of p p2 t ht
           omega
          rw[←HL.out] at HREC
          have hk8:=HK6.out.below HB8.out
          have q0:W8.drew.cell? ⟨FB,5,none⟩=some (.int .i64 f.of)∧W8.drew.cell? ⟨bx,ox+i*4+3,none⟩=some (.slice ca cn cc)∧W8.drew.cell? ⟨by',oy+j*4+3,none⟩=some (.slice ca2 cn2 cc2)∧W8.drew.cell? ⟨sb1,so1,none⟩=some (.slice m1 n1 q1)∧W8.drew.cell? ⟨sb1,so1+1,none⟩=some (.slice ua1 un1 uc1)∧W8.drew.cell? ⟨sb2,so2,none⟩=some (.slice m2 n2 q2)∧W8.drew.cell? ⟨sb2,so2+1,none⟩=some (.slice ua3 un3 uc3):=⟨hk8.cell 5 _ rfl,hkw _ _ HV1.out.c3,hkw _ _ HU1.out.c3,hkw _ _ HS0.out.1,hkw _ _ HS1'.out.1,hkw _ _ HS0.out.2,hkw _ _ HS1'.out.2⟩
          have HQ0:=hid q0
          have hbrw8:Below wr.heap.size wr W8:=HB46.out.trans (HB8.out.mono HB46.out.size)
          have HI8:Hid (zaf zjt 50 1 0 w3.heap.size W8.drew (.slice oa on oc) ((K.take k).flatMap g)∧Below w3.heap.size w3 W8.drew∧∀ b,(Value.slice oa on oc).ownBlock=some b→b<W8.heap.size):=
           ⟨HI.out.1.below hbrw8.drew,(HB36.out.trans (HB8.out.mono HB36.out.size)).drew,fun b e=>Nat.lt_of_lt_of_le (HI.out.1.own b e).2 hbrw8.size⟩
          clear hbw8 hkw hbd8 hk8 HGD2 hbrw8
          go_upto_region 11 with fail
          refine zd3 (fun w'=>w'.cell? ⟨FB,5,none⟩=some (.int .i64 f.of)∧w'.cell? ⟨bx,ox+i*4+3,none⟩=some (.slice ca cn cc)∧w'.cell? ⟨by',oy+j*4+3,none⟩=some (.slice ca2 cn2 cc2)∧w'.cell? ⟨sb1,so1,none⟩=some (.slice m1 n1 q1)∧w'.cell? ⟨sb1,so1+1,none⟩=some (.slice ua1 un1 uc1)∧w'.cell? ⟨sb2,so2,none⟩=some (.slice m2 n2 q2)∧w'.cell? ⟨sb2,so2+1,none⟩=some (.slice ua3 un3 uc3)) (fun _=>True) 15 [(0,0),(1,0),(2,0),(3,0),(4,0),(5,0),(6,0),(7,0),(8,0),(9,0),(10,0),(11,0),(12,0),(13,0),(14,0),(17,0),(15,2),(16,0)] (by kernel_rfl) rfl rfl (by kernel_rfl) (fun _ _ dst _ _ h=>by cases dst <;> exact h) q0 trivial (fun OPS2 _=>?_)
          clear q0
          simp only[List.map_cons,List.map_nil,List.filterMap_cons,List.filterMap_nil,List.getElem?_cons_succ,List.getElem?_cons_zero]
          refine zaV (v:=?v50) ?hy50 ?hr50
          case hy50=>(intro w hw;go_simp;all_goals rfl)
          simp only[Act.put,pzC,pzD,pzE]
          refine zaV (v:=?v51) ?hy51 ?hr51
          case hy51=>(intro w hw;go_simp;all_goals rfl)
          simp only[Act.put,pzC,pzD,pzE]
          refine zaV (v:=?v52) ?hy52 ?hr52
          case hy52=>(intro w hw;go_simp;all_goals rfl)
          simp only[Act.put,pzC,pzD,pzE]
          refine zaV (v:=?v53) ?hy53 ?hr53
          case hy53=>(intro w hw;go_simp;all_goals rfl)
          simp only[Act.put,pzC,pzD,pzE]
          refine zaV (v:=?v54) ?hy54 ?hr54
          case hy54=>(intro w hw;go_simp;all_goals rfl)
          simp only[Act.put,pzC,pzD,pzE]
          refine zaV (v:=?v55) ?hy55 ?hr55
          case hy55=>(intro w hw;go_simp;all_goals rfl)
          simp only[Act.put,pzC,pzD,pzE]
          refine zaV (v:=?v56) ?hy56 ?hr56
          case hy56=>(intro w hw;go_simp;all_goals rfl)
          simp only[Act.put,pzC,pzD,pzE]
          refine zaV (v:=?v57) ?hy57 ?hr57
          case hy57=>(intro w hw;go_simp;all_goals rfl)
          simp only[Act.put,pzC,pzD,pzE]
          refine zaV (v:=?v58) ?hy58 ?hr58
          case hy58=>(intro w hw;go_simp;all_goals rfl)
          simp only[Act.put,pzC,pzD,pzE]
          refine zaV (v:=?v59) ?hy59 ?hr59
          case hy59=>(intro w hw;go_simp;all_goals rfl)
          simp only[Act.put,pzC,pzD,pzE]
          refine zaV (v:=?v60) ?hy60 ?hr60
          case hy60=>(intro w hw;go_simp;all_goals rfl)
          simp only[Act.put,pzC,pzD,pzE]
          refine zaV (v:=?v61) ?hy61 ?hr61
          case hy61=>(intro w hw;go_simp;all_goals rfl)
          simp only[Act.put,pzC,pzD,pzE]
          refine zaV (v:=?v62) ?hy62 ?hr62
          case hy62=>(intro w hw;go_simp;all_goals rfl)
          simp only[Act.put,pzC,pzD,pzE]
          refine zaV (v:=?v63) ?hy63 ?hr63
          case hy63=>(intro w hw;go_simp;all_goals rfl)
          simp only[Act.put,pzC,pzD,pzE]
          refine zaV (v:=?v64) ?hy64 ?hr64
          case hy64=>(intro w hw;go_simp;all_goals rfl)
          simp only[Act.put,pzC,pzD,pzE]
          refine zaV (v:=?v65) ?hy65 ?hr65
          case hy65=>(intro w hw;go_simp;all_goals rfl)
          simp only[Act.put,pzC,pzD,pzE]
          refine ziJ (fun K12 HK12=>?_)
          go_wp2_with fail
          refine HREC.out.mono ?_
          rintro e w10 ⟨v10,rfl,hN10,hb10⟩
          have q0:w10.cell? ⟨FB,5,none⟩=some (.int .i64 f.of)∧w10.cell? ⟨bx,ox+i*4+3,none⟩=some (.slice ca cn cc)∧w10.cell? ⟨by',oy+j*4+3,none⟩=some (.slice ca2 cn2 cc2)∧w10.cell? ⟨sb1,so1,none⟩=some (.slice m1 n1 q1)∧w10.cell? ⟨sb1,so1+1,none⟩=some (.slice ua1 un1 uc1)∧w10.cell? ⟨sb2,so2,none⟩=some (.slice m2 n2 q2)∧w10.cell? ⟨sb2,so2+1,none⟩=some (.slice ua3 un3 uc3):=⟨zaa hb10 _ _ HQ0.out.1,zaa hb10 _ _ HQ0.out.2.1,zaa hb10 _ _ HQ0.out.2.2.1,zaa hb10 _ _ HQ0.out.2.2.2.1,zaa hb10 _ _ HQ0.out.2.2.2.2.1,zaa hb10 _ _ HQ0.out.2.2.2.2.2.1,zaa hb10 _ _ HQ0.out.2.2.2.2.2.2⟩
          obtain⟨la,lc,rfl⟩:∃ la lc,v10= .slice la L.length lc:=by
           obtain⟨-,la,lc,h,-⟩:=hN10.here.open
           exact⟨la,lc,h⟩
          obtain⟨ln,HLN⟩:∃ n,Hid (n=L.length):=⟨_,rfl⟩
          rw[←HLN.out] at hN10 hLn ⊢
          have HJ0:Hid (WayI w3.heap.size W8.heap.size w10.heap.size w10 w10 (.slice oa on oc) ((K.take k).flatMap g)∧Below w3.heap.size w3 w10):=
           ⟨⟨HI8.out.1.below hb10,Nat.le_refl _,fun b e=> .inl (HI8.out.2.2 b e),fun _ _ _=>rfl⟩,HI8.out.2.1.trans (hb10.mono HI8.out.2.1.size)⟩
          have HN10:=hid hN10
          have HZ10:Hid (W8.heap.size≤w10.heap.size):=hb10.size
          clear hN10 hb10 HREC HI8 HQ0
          go_wp2_with fail
          refine HK12.out _ _ q0 ?_
          clear HK12 K12 q0 hixa hixb
          intro _
          refine zaV (v:=?v80) ?hy80 ?hr80
          case hy80=>(intro w hw;go_simp;all_goals rfl)
          simp only[Act.put,pzC,pzD,pzE]
          refine zfy ?_
          clear HFITX HFITY HV1 HU1 HMP HMQ HRP HRQ HS0 HS1' HB6 HB16 HB36 HB46 HK6 HB8 HBND HMAP HPM HXA HYA HKI HFAT HFT0 HC01 HIH HVX HVY
          go_wp2_with fail
          go_loopw [9,132] (fun v9 v132 wx=>∃ (l on2:Nat) (oa2:Option Addr) (oc2:Nat),v132= .int .i64 (l:Int)∧v9= .slice oa2 on2 oc2∧l≤ln∧on2≤1099511627776∧Hid (WayI w3.heap.size W8.heap.size w10.heap.size w10 wx (.slice oa2 on2 oc2) ((K.take k).flatMap g++(L.take l).map (z :: ·))∧((K.take k).flatMap g++(L.take l).map (z :: ·)).length=on2∧Below w3.heap.size w3 wx)) (fun _ v132 _=>ln - (intOf v132).toNat)
          case atStart=>exact⟨0,on,oa,oc,rfl,rfl,by omega,hon,by simpa using HJ0.out.1,by simpa using HI.out.2.1,HJ0.out.2⟩
          case round =>
           obtain⟨l,on2,oa2,oc2,rfl,rfl,hl,hon2,HJ⟩:=hrel
           clear HJ0
           by_cases hll:l<ln
           ·
            obtain⟨t,ht⟩:∃ t,L[l]?=some t:=⟨_,List.getElem?_eq_getElem (by rw[←HLN.out];exact hll)⟩
            have hWA:=(HN10.out.later (Nat.le_refl _) HJ.out.1.size HJ.out.1.same).here
            obtain⟨-,la',lc',e,-,hlat⟩:=hWA.open
            obtain⟨lb,lo,ta3,tc3,hla,g0,hIt⟩:=hlat l t ht
            obtain⟨rfl,-,rfl⟩:la=la'∧ln=L.length∧lc=lc':=by injection e with e1 e2 e3;exact⟨e1,e2,e3⟩
            have hixl:=zaj Tryz.underlying31 zcE hla l hll (cap:=lc)
            obtain⟨a6,n6,c6,w6,hr1,a7,c7,w7',hr2,hJ7,hb7⟩:=HJ.out.1.more HJ.out.2.1 HJ.out.2.2.size hon2 (show zcS z by unfold zcS;omega) hIt (HLL.out t (List.mem_of_getElem? ht))
            have HT1:Hid ((K.take k).flatMap g++(L.take (l+1)).map (z :: ·)=((K.take k).flatMap g++(L.take l).map (z :: ·))++[z::t]):=by
             rw[Hid,List.take_add_one,ht,List.map_append,List.append_assoc];rfl
            have HREL7:Hid (WayI w3.heap.size W8.heap.size w10.heap.size w10 w7' (.slice a7 (on2+1) c7) ((K.take k).flatMap g++(L.take (l+1)).map (z :: ·))∧((K.take k).flatMap g++(L.take (l+1)).map (z :: ·)).length=on2+1∧Below w3.heap.size w3 w7'):=by
             rw[HT1.out]
             exact⟨hJ7,by rw[List.length_append,HJ.out.2.1];rfl,HJ.out.2.2.trans hb7⟩
            have hon3:on2+1≤1099511627776:=by
             have h1:=HCN.out (k+1)
             rw[HTK.out,HGL.out,List.length_append,List.length_map] at h1
             have h2:=HREL7.out.2.1
             rw[List.length_append,List.length_map,List.length_take] at h2
             have h3:=HLN.out
             omega
            obtain⟨tn3,HTN⟩:∃ n,Hid (n=t.length):=⟨_,rfl⟩
            rw[←HTN.out] at g0 hr1
            clear hWA hlat hIt hJ7 hb7 HJ ht hla HT1 HTK HGL
            go_wp2_with (at_builtin;first|refine zad (o:=⟨some 140,_,_,_,_,_⟩) rfl _ _ _ rfl _ _ rfl rfl hr1 ?_|refine zad (o:=⟨some 142,_,_,_,_,_⟩) rfl _ _ _ rfl _ _ rfl rfl hr2 ?_)
            go_roundw
            case rel=>exact⟨l+1,on2+1,a7,c7,by go_num,rfl,hll,hon3,HREL7.out⟩
            case measure=>simp[intOf];omega
           ·
            obtain rfl:l=ln:=by omega
            have HREL9:Hid (zaf zjt 50 1 0 w3.heap.size wr (.slice oa2 on2 oc2) ((K.take (k+1)).flatMap g)∧((K.take (k+1)).flatMap g).length=on2∧Below w3.heap.size w3 wr):=by
             have e:(K.take (k+1)).flatMap g=(K.take k).flatMap g++(L.take l).map (z :: ·):=by
              rw[HTK.out,HGL.out,HLN.out,List.take_length]
             rw[e]
             exact⟨HJ.out.1.rows,HJ.out.2.1,HJ.out.2.2⟩
            clear HJ HTK HGL
            go_wp2_with fail
            go_roundw
            case rel=>exact⟨k+1,on2,oa2,oc2,by go_num,rfl,hlt,hon2,HREL9.out⟩
            case measure=>simp[intOf];omega
       ·
        have HGD:Hid (g z=[[z]]):=by
         rw[Hid,HGZ.out,HGX.out,HGY.out,ziS HC.out.symm (fun h=>h17 h.1),HFZ.out]
        have e17:(f.kind == 17)=false:=by simpa using h17
        have e18:decide (f.kind=17)=false:=decide_eq_false h17
        clear h17
        go_upto_region 10 with fail
        go_quiet (fail)
        obtain⟨W8,HW8⟩:∃ W,Hid (W=w7.drewN nq):=⟨_,rfl⟩
        rw[←HW8.out]
        have HB8:Hid (Below W6.heap.size W6 W8):=by rw[HW8.out];exact zab HB7.out _
        clear HW8 HB7
        have hbw8:Below wr.heap.size wr W8:=HB46.out.trans (HB8.out.mono HB46.out.size)
        obtain⟨a8,c8,w9,hr9,hO9,hb9⟩:=ziY (HI.out.1.below hbw8) HI.out.2.1 (Nat.le_trans HI.out.2.2.size hbw8.size) hon (show zcS z by unfold zcS;omega)
        have HREL9:Hid (zaf zjt 50 1 0 w3.heap.size w9 (.slice a8 (on+1) c8) ((K.take (k+1)).flatMap g)∧((K.take (k+1)).flatMap g).length=on+1∧Below w3.heap.size w3 w9):=by
         refine⟨?_,?_,(HB36.out.trans (HB8.out.mono HB36.out.size)).trans hb9⟩
         ·
          rw[HTK.out,HGD.out];exact hO9
         ·
          rw[HTK.out,HGD.out,List.length_append,HI.out.2.1];rfl
        have hon1:on+1≤1099511627776:=by have:=HCN.out (k+1);rw[HREL9.out.2.1] at this;exact this
        clear hbw8 hO9 hb9 HB8 HGD HTK
        go_upto_region 8 with fail
        go_wp2_with (at_builtin;refine zad rfl _ _ _ rfl _ _ rfl rfl hr9 ?_)
        go_roundw
        case rel=>exact⟨k+1,on+1,a8,c8,by go_num,rfl,hlt,hon1,HREL9.out⟩
        case measure=>simp[intOf];omega
  ·
   obtain rfl:k=n:=by omega
   have HFIN:Hid (Q (.returned (.slice oa on oc)) wr):=by
    rw[HQ.out]
    have h:=HI.out.1
    rw[HN.out,List.take_length] at h
    refine⟨_,rfl,⟨?_,w3.heap.size,HB3.out.size,by rw[HDW.out];exact h⟩,HB3.out.trans (HI.out.2.2.mono HB3.out.size)⟩
    have h1:=HCN.out k
    rw[HN.out,List.take_length] at h1
    rw[HDW.out];exact h1
   clear HI
   go_wp2_with fail
   exact HFIN.out
end
end Go.Proofs.YtpckoeicbjfnhaaGreatDoor
