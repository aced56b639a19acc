/- darningref15.Last: the last field of a way (lastF), whether it leads to one (wayOk). A right schema; ways of at most 2^30 numbers. -/
import Derived.Test.YtdpnmdkbdibkpaaGreatDoorZ06
import Derived.Test.YtdpnmdkbdibkpaaGreatDoorZ16
import Derived.Test.YtdpnmdkbdibkpaaGreatDoorZ32
namespace Go.Proofs.YtdpnmdkbdibkpaaGreatDoor
set_option maxRecDepth 100000
set_option maxHeartbeats 16000000
section
open Go.RowKit
theorem zmW {w:World}{sv yv:Value}{s:List Mes}{y:List Int}(hS:zaj w sv s)(hs:zaC s=true)(root:Nat)(hroot:root<s.length)(hY:zar w yv y)(hL:y.length≤1073741824) :
  Calls Tryz.prog 12 #[sv,.int .i64 (root:Int),yv] w (zfm s root y w):=by
 obtain⟨-,ya,yc,rfl,-,hyat⟩:=hY.open
 obtain⟨Q,HQ⟩:∃ Q:Ending→World→Prop,Hid (Q=zfm s root y w):=⟨_,rfl⟩
 rw[←HQ.out]
 obtain⟨yn,HYN⟩:∃ n,Hid (n=y.length):=⟨_,rfl⟩
 have hL':=hL
 rw[←HYN.out] at hL hY ⊢
 obtain⟨X,HX⟩:∃ X,Hid (X=w.heap.size):=⟨_,rfl⟩
 have hS2:=hS
 obtain⟨-,sa,sc,rfl,hsat⟩:=hS2.open
 obtain⟨sn,HSN⟩:∃ n,Hid (n=s.length):=⟨_,rfl⟩
 rw[←HSN.out] at hS hroot hsat ⊢
 have HS:=hid hS
 have HSR:=hid hs
 have HRT:=hid hroot
 have HY:=hid hY
 have HYAT:=hid hyat
 have HSAT:=hid hsat
 obtain⟨W1,HW1⟩:∃ W,Hid (W=w.alloc (.cells #[.string ⟨#[]⟩,.int .i64 0,.int .i64 0,.bool false,.bool false,.int .i64 0] 51)):=⟨_,rfl⟩
 have hb1:Below w.heap.size w W1:=by rw[HW1.out];exact (Below.refl _ _).alloc (Nat.le_refl _) _
 have hx1:Blk W1 X [.string ⟨#[]⟩,.int .i64 0,.int .i64 0,.bool false,.bool false,.int .i64 0] 51:=by rw[HW1.out,HX.out];exact Blk.new w [.string ⟨#[]⟩,.int .i64 0,.int .i64 0,.bool false,.bool false,.int .i64 0] _
 have HPA:=hid (zmS (HS.out.below hb1) hs root (by rw[←HSN.out];exact hroot) (hY.below hb1) hL')
 have HB2:=hid hb1
 have HX2:=hid hx1
 clear hS hs hroot hY hyat hb1 hx1 hsat hL'
 unfold zhs at HPA
 go_enter Tryz.func12,Tryz.ntmps12
 go_upto_region 1 with fail
 rw[←HW1.out,←HX.out]
 go_wp2_with fail
 refine HPA.out.mono ?_
 rintro e w3 ⟨pp,wo,rfl,-,hwo,-,hb3⟩
 have HWO:Hid (wo=zcF s root y):=by
  rw[Hid,Bool.eq_iff_iff,hwo]
  unfold zcF
  cases zaz s root y with
  | none=>simp
  | some ns=>simp
 have HB3:=hid (HB2.out.trans (hb3.mono HB2.out.size))
 have HX3:=hid (HX2.out.below hb3)
 clear hb3 HPA hwo
 unfold zbA
 cases wo with
 | false =>
  have x0:=HX3.out.cell 0 _ rfl
  have x1:=HX3.out.cell 1 _ rfl
  have x2:=HX3.out.cell 2 _ rfl
  have x3:=HX3.out.cell 3 _ rfl
  have x4:=HX3.out.cell 4 _ rfl
  have x5:=HX3.out.cell 5 _ rfl
  have f0:=HX3.out.free 0
  have f1:=HX3.out.free 1
  have f2:=HX3.out.free 2
  have f3:=HX3.out.free 3
  have f4:=HX3.out.free 4
  have f5:=HX3.out.free 5
  have xl:=HX3.out.lt
  have HBK:=(((((HX3.out.set 0 (.string ⟨#[]⟩)).set 1 (.int .i64 0)).set 2 (.int .i64 0)).set 3 (.bool false)).set 4 (.bool false)).set 5 (.int .i64 0)
  have q0:=HBK.cell 0 _ rfl
  have q1:=HBK.cell 1 _ rfl
  have q2:=HBK.cell 2 _ rfl
  have q3:=HBK.cell 3 _ rfl
  have q4:=HBK.cell 4 _ rfl
  have q5:=HBK.cell 5 _ rfl
  have hX:w.heap.size≤X:=by rw[HX.out];exact Nat.le_refl _
  have HE:Hid (Q (.returned (.tuple #[.agg #[.string ⟨#[]⟩,.int .i64 0,.int .i64 0,.bool false,.bool false,.int .i64 0],.bool false])) ((((((w3.setCell ⟨X,0,none⟩ (.string ⟨#[]⟩)).setCell ⟨X,1,none⟩ (.int .i64 0)).setCell ⟨X,2,none⟩ (.int .i64 0)).setCell ⟨X,3,none⟩ (.bool false)).setCell ⟨X,4,none⟩ (.bool false)).setCell ⟨X,5,none⟩ (.int .i64 0))):=by
   rw[HQ.out]
   exact⟨(((((HB3.out.setCell hX _).setCell hX _).setCell hX _).setCell hX _).setCell hX _).setCell hX _,fun _=>rfl,fun h=>by rw[←HWO.out] at h;cases h⟩
  clear HBK hX
  go_wp2_with fail
  refine bodyPost_ret (v:=.tuple #[.agg #[.string ⟨#[]⟩,.int .i64 0,.int .i64 0,.bool false,.bool false,.int .i64 0],.bool false]) ?_ rfl HE.out
  simp[results,Tryz.results12,go_sem,q0,q1,q2,q3,q4,q5]
 | true =>
  obtain⟨ns0,hns0⟩:=zcn HWO.out.symm
  obtain⟨FB,HFB⟩:∃ b,Hid (b=w3.heap.size):=⟨_,rfl⟩
  obtain⟨W4,HW4⟩:∃ W,Hid (W=w3.alloc (.cells #[.string ⟨#[]⟩,.int .i64 0,.int .i64 0,.bool false,.bool false,.int .i64 0] 51)):=⟨_,rfl⟩
  have hb4:Below w3.heap.size w3 W4:=by rw[HW4.out];exact (Below.refl _ _).alloc (Nat.le_refl _) _
  have hf4:Blk W4 FB Fld.zero.cells 51:=by rw[HW4.out,HFB.out];exact Blk.new w3 Fld.zero.cells _
  have HB4:=hid (HB3.out.trans (hb4.mono HB3.out.size))
  have HX4:=hid (HX3.out.below hb4)
  have HF4:=hid hf4
  have HNS:=hid hns0
  have HXF:Hid (w.heap.size≤X∧X<FB):=⟨by rw[HX.out];exact Nat.le_refl _,by rw[HFB.out];exact HX3.out.lt⟩
  clear hb4 hf4 hns0
  go_upto_region 5 with fail
  rw[←HW4.out,←HFB.out]
  go_wp2_with fail
  go_loopw [1,11] (fun v1 v11 wr=>∃ (q:Nat) (rt:Int) (f:Fld),v11= .int .i64 (q:Int)∧v1= .int .i64 rt∧q≤yn∧Hid (Blk wr FB f.cells 51∧Blk wr X [.string ⟨#[]⟩,.int .i64 0,.int .i64 0,.bool false,.bool false,.int .i64 0] 51∧Below w.heap.size w wr∧zdm s rt f (y.drop q)=zdm s root .zero y∧(q<yn→0≤rt∧rt<sn∧∃ ns,zaz s rt (y.drop q)=some ns))) (fun _ v11 _=>yn - (intOf v11).toNat)
  case atStart=>exact⟨0,root,.zero,rfl,rfl,by omega,HF4.out,HX4.out,HB4.out,rfl,fun _=>⟨by omega,by have:=HRT.out;omega,ns0,HNS.out⟩⟩
  case round =>
   obtain⟨q,rt,f,rfl,rfl,hq,HJ⟩:=hrel
   by_cases hlt:q<yn
   ·
    obtain⟨h0,h1,ns,hns⟩:=HJ.out.2.2.2.2 hlt
    obtain⟨r,rfl⟩:∃ r:Nat,rt=r:=⟨rt.toNat,by omega⟩
    obtain⟨nb,hnb⟩:=zdJ HYN.out hlt
    obtain⟨h64,b2,o2,ha2,g2⟩:=HYAT.out q nb hnb
    have hix2:=zag Tryz.underlying28 zbr ha2 q hlt (cap:=yc)
    have hb2w:=World.block_lt_of_cell? w _ g2
    replace g2:=zaa HJ.out.2.2.1 _ _ g2
    have hl2:=World.block_lt_of_cell? wr _ g2
    rw[zbS hnb] at hns
    obtain⟨j,hj1,hj2,hj3,hj4,hj5⟩:=zfJ HSR.out (by rw[←HSN.out];omega) hns
    obtain⟨sb,so,fv,hsa,-,c0,c1,hF⟩:=HSAT.out r (by omega)
    subst hsa
    obtain⟨fs,HFS⟩:∃ fs,Hid (fs=(s.getD r .zero).fields):=⟨_,rfl⟩
    rw[←HFS.out] at hF hj1 hj2 hj3
    obtain⟨nm,HNM⟩:∃ nm,Hid (nm=(s.getD r .zero).name):=⟨_,rfl⟩
    rw[←HNM.out] at c0
    have hFK:=hF.keep (zaa HJ.out.2.2.1)
    obtain⟨hfl,fa,fc,rfl,hfat⟩:=hF.open
    obtain⟨fn,HFN⟩:∃ fn,Hid (fn=fs.length):=⟨_,rfl⟩
    rw[←HFN.out] at c1 hfat hj2 hFK
    obtain⟨fb,fo,hfb,-,f0,f1,f2,f3,f4,f5⟩:=hfat j hj2
    subst hfb
    rw[←hj3] at f0 f1 f2 f3 f4 f5
    have HLW:Hid (sb<w.heap.size∧fb<w.heap.size∧b2<w.heap.size):=⟨World.block_lt_of_cell? w _ c1,World.block_lt_of_cell? w _ f0,hb2w⟩
    clear hb2w
    have hkr:=zaa HJ.out.2.2.1
    replace c0:=hkr _ _ c0
    replace c1:=hkr _ _ c1
    replace f0:=hkr _ _ f0
    replace f1:=hkr _ _ f1
    replace f2:=hkr _ _ f2
    replace f3:=hkr _ _ f3
    replace f4:=hkr _ _ f4
    replace f5:=hkr _ _ f5
    have HFC:Hid (Calls Tryz.prog 33 #[.agg #[.string nm,.slice (some ⟨fb,fo,none⟩) fn fc],.int .i64 nb] wr.drew fun e w'=>e= .returned (.int .i64 (j:Int))∧Below wr.drew.heap.size wr.drew w'):=by
     have:=zdG (hFK.keep (w':=wr.drew) fun _ _ h=>h) nm nb
     rwa [hj1] at this
    have hixs:=zad Tryz.underlying23 zbV rfl r (by omega) (a:=some ⟨sb,so,none⟩) (len:=sn) (cap:=sc)
    have hixf:=zad Tryz.underlying62 zbW rfl j hj2 (a:=some ⟨fb,fo,none⟩) (cap:=fc)
    obtain⟨yb,yo,hyb⟩:∃ b o,ya=some ⟨b,o,none⟩:=⟨b2,o2,ha2⟩
    obtain⟨g,HG⟩:∃ g,Hid (g=zoq s r nb):=⟨_,rfl⟩
    rw[←HG.out] at f0 f1 f2 f3 f4 f5 hj4 hj5
    have HNX:Hid (zdm s g.of g (y.drop (q+1))=zdm s root .zero y∧(q+1<yn→0≤g.of∧g.of<sn∧∃ ns,zaz s g.of (y.drop (q+1))=some ns)):=by
     refine⟨?_,fun h=>?_⟩
     ·
      have h2:=HJ.out.2.2.2.1
      rw[zbS hnb,zdm,←HG.out] at h2
      exact h2
     ·
      have hne:y.drop (q+1)≠[]:=by
       intro e
       have:=congrArg List.length e
       rw[List.length_drop,←HYN.out,List.length_nil] at this
       omega
      obtain⟨p,hp1,hp2⟩:=hj5 hne
      exact⟨by omega,by rw[HSN.out];omega,(hj4 hne).2.2⟩
    obtain⟨name,number,kind,rep,packed,of⟩:=g
    have HV0:Hid (wr.drew.cell? ⟨sb,so+r*2,none⟩=some (.string nm)∧wr.drew.cell? ⟨sb,so+r*2+1,none⟩=some (.slice (some ⟨fb,fo,none⟩) fn fc)∧wr.drew.cell? ⟨b2,o2+q,none⟩=some (.int .i64 nb)∧wr.drew.cell? ⟨fb,fo+j*6,none⟩=some (.string name)∧wr.drew.cell? ⟨fb,fo+j*6+1,none⟩=some (.int .i64 number)∧wr.drew.cell? ⟨fb,fo+j*6+2,none⟩=some (.int .i64 kind)∧wr.drew.cell? ⟨fb,fo+j*6+3,none⟩=some (.bool rep)∧wr.drew.cell? ⟨fb,fo+j*6+4,none⟩=some (.bool packed)∧wr.drew.cell? ⟨fb,fo+j*6+5,none⟩=some (.int .i64 of)):=⟨c0,c1,by simpa [zoG] using g2,f0,f1,f2,f3,f4,f5⟩
    have hls:=World.block_lt_of_cell? wr _ c1
    have hlf:=World.block_lt_of_cell? wr _ f0
    have HLT:Hid (sb<wr.heap.size∧fb<wr.heap.size∧b2<wr.heap.size):=⟨hls,hlf,hl2⟩
    clear hns hnb ha2 hyb hj1 hj3 hj4 hj5 h64 c0 c1 f0 f1 f2 f3 f4 f5 hF hFK hfat hfl hkr
    go_upto_region 8 with fail
    refine zaS (fun w'=>w'.cell? ⟨sb,so+r*2,none⟩=some (.string nm)∧w'.cell? ⟨sb,so+r*2+1,none⟩=some (.slice (some ⟨fb,fo,none⟩) fn fc)∧w'.cell? ⟨b2,o2+q,none⟩=some (.int .i64 nb)∧w'.cell? ⟨fb,fo+j*6,none⟩=some (.string name)∧w'.cell? ⟨fb,fo+j*6+1,none⟩=some (.int .i64 number)∧w'.cell? ⟨fb,fo+j*6+2,none⟩=some (.int .i64 kind)∧w'.cell? ⟨fb,fo+j*6+3,none⟩=some (.bool rep)∧w'.cell? ⟨fb,fo+j*6+4,none⟩=some (.bool packed)∧w'.cell? ⟨fb,fo+j*6+5,none⟩=some (.int .i64 of)) (fun _=>True) 13 [(0,0),(1,0),(2,0),(3,0),(4,0),(5,0),(6,0),(7,0),(8,0),(9,0),(10,0),(11,0),(12,0),(13,2),(14,0),(15,0),(16,2)] (by kernel_rfl) rfl rfl (by kernel_rfl) (fun _ _ dst _ _ h=>by cases dst <;> exact h) HV0.out trivial (fun OPS _=>?_)
    simp only[List.map_cons,List.map_nil,List.filterMap_cons,List.filterMap_nil,List.getElem?_cons_succ,List.getElem?_cons_zero]
    refine zav (v:=?v0) ?hy0 ?hr0
    case hy0=>(intro w hw;go_simp;all_goals rfl)
    simp only[Act.put,pzC,pzD,pzE]
    refine zav (v:=?v1) ?hy1 ?hr1
    case hy1=>(intro w hw;go_simp;all_goals rfl)
    simp only[Act.put,pzC,pzD,pzE]
    refine zav (v:=?v2) ?hy2 ?hr2
    case hy2=>(intro w hw;go_simp;all_goals rfl)
    simp only[Act.put,pzC,pzD,pzE]
    refine zav (v:=?v3) ?hy3 ?hr3
    case hy3=>(intro w hw;go_simp;all_goals rfl)
    simp only[Act.put,pzC,pzD,pzE]
    refine zav (v:=?v4) ?hy4 ?hr4
    case hy4=>(intro w hw;go_simp;all_goals rfl)
    simp only[Act.put,pzC,pzD,pzE]
    refine zav (v:=?v5) ?hy5 ?hr5
    case hy5=>(intro w hw;go_simp;all_goals rfl)
    simp only[Act.put,pzC,pzD,pzE]
    refine zav (v:=?v6) ?hy6 ?hr6
    case hy6=>(intro w hw;go_simp;all_goals rfl)
    simp only[Act.put,pzC,pzD,pzE]
    refine zav (v:=?v7) ?hy7 ?hr7
    case hy7=>(intro w hw;go_simp;all_goals rfl)
    simp only[Act.put,pzC,pzD,pzE]
    refine zav (v:=?v8) ?hy8 ?hr8
    case hy8=>(intro w hw;go_simp;all_goals rfl)
    simp only[Act.put,pzC,pzD,pzE]
    refine zav (v:=?v9) ?hy9 ?hr9
    case hy9=>(intro w hw;go_simp;all_goals rfl)
    simp only[Act.put,pzC,pzD,pzE]
    refine zav (v:=?v10) ?hy10 ?hr10
    case hy10=>(intro w hw;go_simp;all_goals rfl)
    simp only[Act.put,pzC,pzD,pzE]
    refine zav (v:=?v11) ?hy11 ?hr11
    case hy11=>(intro w hw;go_simp;all_goals rfl)
    simp only[Act.put,pzC,pzD,pzE]
    refine zav (v:=?v12) ?hy12 ?hr12
    case hy12=>(intro w hw;go_simp;all_goals rfl)
    simp only[Act.put,pzC,pzD,pzE]
    refine zcY (fun K12 HK12=>?_)
    go_wp2_with fail
    refine HFC.out.mono ?_
    rintro e w5 ⟨rfl,hb5'⟩
    have hb5:Below wr.heap.size wr w5:=(Below.refl wr.heap.size wr).drew.trans hb5'
    have hV5:w5.cell? ⟨sb,so+r*2,none⟩=some (.string nm)∧w5.cell? ⟨sb,so+r*2+1,none⟩=some (.slice (some ⟨fb,fo,none⟩) fn fc)∧w5.cell? ⟨b2,o2+q,none⟩=some (.int .i64 nb)∧w5.cell? ⟨fb,fo+j*6,none⟩=some (.string name)∧w5.cell? ⟨fb,fo+j*6+1,none⟩=some (.int .i64 number)∧w5.cell? ⟨fb,fo+j*6+2,none⟩=some (.int .i64 kind)∧w5.cell? ⟨fb,fo+j*6+3,none⟩=some (.bool rep)∧w5.cell? ⟨fb,fo+j*6+4,none⟩=some (.bool packed)∧w5.cell? ⟨fb,fo+j*6+5,none⟩=some (.int .i64 of):=⟨zaa hb5' _ _ HV0.out.1,zaa hb5' _ _ HV0.out.2.1,zaa hb5' _ _ HV0.out.2.2.1,zaa hb5' _ _ HV0.out.2.2.2.1,zaa hb5' _ _ HV0.out.2.2.2.2.1,zaa hb5' _ _ HV0.out.2.2.2.2.2.1,zaa hb5' _ _ HV0.out.2.2.2.2.2.2.1,zaa hb5' _ _ HV0.out.2.2.2.2.2.2.2.1,zaa hb5' _ _ HV0.out.2.2.2.2.2.2.2.2⟩
    go_wp2_with fail
    refine HK12.out _ _ hV5 ?_
    clear HK12 K12
    intro _
    have hf5:=HJ.out.1.below hb5
    have HX5:=hid (HJ.out.2.1.below hb5)
    have HB5:=hid (HJ.out.2.2.1.trans (hb5.mono HJ.out.2.2.1.size))
    have s0:=hf5.cell 0 _ rfl
    have s1:=hf5.cell 1 _ rfl
    have s2:=hf5.cell 2 _ rfl
    have s3:=hf5.cell 3 _ rfl
    have s4:=hf5.cell 4 _ rfl
    have s5:=hf5.cell 5 _ rfl
    have f0:=hf5.free 0
    have f1:=hf5.free 1
    have f2:=hf5.free 2
    have f3:=hf5.free 3
    have f4:=hf5.free 4
    have f5:=hf5.free 5
    have fl:=hf5.lt
    have hfb:w.heap.size≤FB:=by have:=HXF.out;omega
    have HBK:=hid ((((((hf5.set 0 (.string name)).set 1 (.int .i64 number)).set 2 (.int .i64 kind)).set 3 (.bool rep)).set 4 (.bool packed)).set 5 (.int .i64 of))
    have HBE:=hid ((((((HB5.out.setCell (p:=⟨FB,0,none⟩) hfb (.string name)).setCell (p:=⟨FB,1,none⟩) hfb (.int .i64 number)).setCell (p:=⟨FB,2,none⟩) hfb (.int .i64 kind)).setCell (p:=⟨FB,3,none⟩) hfb (.bool rep)).setCell (p:=⟨FB,4,none⟩) hfb (.bool packed)).setCell (p:=⟨FB,5,none⟩) hfb (.int .i64 of))
    have hne:X≠FB:=by have:=HXF.out;omega
    have HXE:=hid ((((((HX5.out.set_other ⟨FB,0,none⟩ (.string name) hne).set_other ⟨FB,1,none⟩ (.int .i64 number) hne).set_other ⟨FB,2,none⟩ (.int .i64 kind) hne).set_other ⟨FB,3,none⟩ (.bool rep) hne).set_other ⟨FB,4,none⟩ (.bool packed) hne).set_other ⟨FB,5,none⟩ (.int .i64 of) hne)
    have HBV:=hid hV5
    obtain⟨W6,HW6⟩:∃ W,Hid (W=(((((w5.setCell ⟨FB,0,none⟩ (.string name)).setCell ⟨FB,1,none⟩ (.int .i64 number)).setCell ⟨FB,2,none⟩ (.int .i64 kind)).setCell ⟨FB,3,none⟩ (.bool rep)).setCell ⟨FB,4,none⟩ (.bool packed)).setCell ⟨FB,5,none⟩ (.int .i64 of)):=⟨_,rfl⟩
    have hV6:W6.cell? ⟨sb,so+r*2,none⟩=some (.string nm)∧W6.cell? ⟨sb,so+r*2+1,none⟩=some (.slice (some ⟨fb,fo,none⟩) fn fc)∧W6.cell? ⟨b2,o2+q,none⟩=some (.int .i64 nb)∧W6.cell? ⟨fb,fo+j*6,none⟩=some (.string name)∧W6.cell? ⟨fb,fo+j*6+1,none⟩=some (.int .i64 number)∧W6.cell? ⟨fb,fo+j*6+2,none⟩=some (.int .i64 kind)∧W6.cell? ⟨fb,fo+j*6+3,none⟩=some (.bool rep)∧W6.cell? ⟨fb,fo+j*6+4,none⟩=some (.bool packed)∧W6.cell? ⟨fb,fo+j*6+5,none⟩=some (.int .i64 of):=by
     have hk:∀ b i u,b<FB→w5.cell? ⟨b,i,none⟩=some u→W6.cell? ⟨b,i,none⟩=some u:=fun b i u hb h=>by
      rw[HW6.out,zaG _ _ _ _ _ (by show b≠FB;omega),zaG _ _ _ _ _ (by show b≠FB;omega),zaG _ _ _ _ _ (by show b≠FB;omega),zaG _ _ _ _ _ (by show b≠FB;omega),zaG _ _ _ _ _ (by show b≠FB;omega),zaG _ _ _ _ _ (by show b≠FB;omega)]
      exact h
     have h1:=HLW.out
     have h2:=HXF.out
     exact⟨hk _ _ _ (by omega) hV5.1,hk _ _ _ (by omega) hV5.2.1,hk _ _ _ (by omega) hV5.2.2.1,hk _ _ _ (by omega) hV5.2.2.2.1,hk _ _ _ (by omega) hV5.2.2.2.2.1,hk _ _ _ (by omega) hV5.2.2.2.2.2.1,hk _ _ _ (by omega) hV5.2.2.2.2.2.2.1,hk _ _ _ (by omega) hV5.2.2.2.2.2.2.2.1,hk _ _ _ (by omega) hV5.2.2.2.2.2.2.2.2⟩
    rw[←HW6.out] at HBK HBE HXE
    have HV6:=hid hV6
    clear hf5 hb5 hne hfb g2 hl2 hix2 HJ hV5 hV6 hb5'
    refine zav (v:=?v20) ?hy20 ?hr20
    case hy20=>(intro w hw;go_simp;all_goals rfl)
    simp only[Act.put,pzC,pzD,pzE]
    refine zav (v:=?v21) ?hy21 ?hr21
    case hy21=>(intro w hw;go_simp;all_goals rfl)
    simp only[Act.put,pzC,pzD,pzE]
    refine zcY (fun K12 HK12=>?_)
    go_wp2_with fail
    rw[←HW6.out]
    refine HK12.out _ _ HV6.out ?_
    clear HK12 K12 s0 s1 s2 s3 s4 s5 f0 f1 f2 f3 f4 f5 fl
    intro _
    refine zcE ?_
    have e5:=HBK.out.cell 5 _ rfl
    have el:=HBK.out.lt
    go_wp2_with fail
    go_roundw
    case rel=>exact⟨q+1,_,⟨name,number,kind,rep,packed,of⟩,by go_num,rfl,hlt,HBK.out,HXE.out,HBE.out,HNX.out.1,HNX.out.2⟩
    case measure=>simp[intOf];omega
   ·
    obtain rfl:q=yn:=by omega
    have HLE:Hid (f=zdm s root .zero y):=by
     have h2:=HJ.out.2.2.2.1
     rw[List.drop_eq_nil_of_le (by rw[←HYN.out];exact Nat.le_refl _)] at h2
     exact h2
    obtain⟨name,number,kind,rep,packed,of⟩:=f
    have hf5:=HJ.out.1
    have s0:=hf5.cell 0 _ rfl
    have s1:=hf5.cell 1 _ rfl
    have s2:=hf5.cell 2 _ rfl
    have s3:=hf5.cell 3 _ rfl
    have s4:=hf5.cell 4 _ rfl
    have s5:=hf5.cell 5 _ rfl
    have fl:=hf5.lt
    have hx:=HJ.out.2.1
    have x0:=hx.cell 0 _ rfl
    have x1:=hx.cell 1 _ rfl
    have x2:=hx.cell 2 _ rfl
    have x3:=hx.cell 3 _ rfl
    have x4:=hx.cell 4 _ rfl
    have x5:=hx.cell 5 _ rfl
    have f0:=hx.free 0
    have f1:=hx.free 1
    have f2:=hx.free 2
    have f3:=hx.free 3
    have f4:=hx.free 4
    have f5:=hx.free 5
    have xl:=hx.lt
    have HBK:=(((((hx.set 0 (.string name)).set 1 (.int .i64 number)).set 2 (.int .i64 kind)).set 3 (.bool rep)).set 4 (.bool packed)).set 5 (.int .i64 of)
    have q0:=HBK.cell 0 _ rfl
    have q1:=HBK.cell 1 _ rfl
    have q2:=HBK.cell 2 _ rfl
    have q3:=HBK.cell 3 _ rfl
    have q4:=HBK.cell 4 _ rfl
    have q5:=HBK.cell 5 _ rfl
    have hX:=HXF.out.1
    have HE:Hid (Q (.returned (.tuple #[.agg #[.string name,.int .i64 number,.int .i64 kind,.bool rep,.bool packed,.int .i64 of],.bool true])) ((((((wr.setCell ⟨X,0,none⟩ (.string name)).setCell ⟨X,1,none⟩ (.int .i64 number)).setCell ⟨X,2,none⟩ (.int .i64 kind)).setCell ⟨X,3,none⟩ (.bool rep)).setCell ⟨X,4,none⟩ (.bool packed)).setCell ⟨X,5,none⟩ (.int .i64 of))):=by
     rw[HQ.out]
     exact⟨(((((HJ.out.2.2.1.setCell hX _).setCell hX _).setCell hX _).setCell hX _).setCell hX _).setCell hX _,fun h=>absurd (HWO.out.trans h) (by simp),fun _=>by rw[←HLE.out];rfl⟩
    clear HBK hX hx hf5 HJ HLE
    go_wp2_with fail
    refine bodyPost_ret (v:=.tuple #[.agg #[.string name,.int .i64 number,.int .i64 kind,.bool rep,.bool packed,.int .i64 of],.bool true]) ?_ rfl HE.out
    simp[results,Tryz.results12,go_sem,q0,q1,q2,q3,q4,q5]
end
end Go.Proofs.YtdpnmdkbdibkpaaGreatDoor
