/- norm.gather: the views by numbers and the unknown bytes of bytes that are read to their end. At most 2^30 bytes. Plain laws of exchanges in a row of things. No condition. Rows of ints that are sorted in place: the row's block, exchanges, slices.insertionSortCmpFunc. At most 2^40 ints. -/
import Derived.Test.YtphkmpnahnakaaaGreatZ08
import Derived.Test.YtphkmpnahnakaaaGreatZ16
import Derived.Test.YtphkmpnahnakaaaGreatZ20
import Derived.Test.YtphkmpnahnakaaaGreatZ22
import Derived.Test.YtphkmpnahnakaaaGreatZ32
import Derived.BigRegion
import Derived.Deep.CutBlock
import Derived.StillTailTactics
namespace Go.Proofs.YtphkmpnahnakaaaGreat
open Go.RowKit
def GatherPost (w:World) (l:List UInt8) (all:List VW) (e:Ending) (w':World):Prop:=
 ∃ r u es,e = .returned (.agg #[.map (some r),u]) ∧ MapIs w' r intK es ∧ (∀ n:Int,OwnV w' w.heap.size (atK es n) (numsOf all n)) ∧ Own w' w.heap.size u (unkOf l all) ∧ Below w.heap.size w w'
theorem ownV_mono {w:World} {b b':Nat} {v:Value} {l:List VW} (h:OwnV w b v l) (hb:b' ≤ b):OwnV w b' v l:=by
 refine ⟨h.1,?_⟩
 rcases h.2 with h2 | ⟨g,cap,cur,hv,hg,h3⟩
 ·
  exact .inl h2
 ·
  exact .inr ⟨g,cap,cur,hv,by omega,h3⟩
theorem unkOf_le (l:List UInt8):∀ (xs:List VW),(unkOf l xs).length ≤ vsum xs
 | [] => by simp [unkOf,vsum]
 | x :: r => by
  have h:=unkOf_le l r
  have hp:(part l x.r.start x.r.to).length ≤ vsize x:=by unfold part vsize;simp;omega
  unfold unkOf vsum at *
  rw [List.filter_cons,List.map_cons,List.sum_cons]
  split
  ·
   rw [List.flatMap_cons,List.length_append];omega
  ·
   omega
theorem vsum_take (xs:List VW) (k:Nat):vsum (xs.take k) ≤ vsum xs:=by
 conv => rhs;rw [← List.take_append_drop k xs,vsum_app]
 omega
set_option maxRecDepth 100000 in
set_option maxHeartbeats 16000000 in
theorem norm_gather {w:World} {bv vf:Value} {l:List UInt8} {fs:List Fld} (hb:Bytes w bv l) (hl:l.length ≤ 1099511627776) (hf:FieldsAt w vf fs) (nm:ByteArray) (hok:(vall fs l).2.2 = 0) (hv:∀ x ∈ (vall fs l).1,x.r.start ≤ x.r.to ∧ x.r.to ≤ l.length) :
  Calls Tryz.prog 49 #[.agg #[.string nm,vf],bv] w (GatherPost w l (vall fs l).1):=by
 have HL:=hid hl
 have HV:=hid hv
 have HB:=hid hb
 have HA:=hid (fun (W:World) (hb':Below w.heap.size w W) => view_All (hb.below hb') hl (hf.below hb') nm)
 obtain ⟨-,va,vcap,rfl,-⟩:=hb.open
 obtain ⟨-,fa,fc,rfl,-⟩:=hf.open
 obtain ⟨all,HALL⟩:∃ all,Hid (all = (vall fs l).1):=⟨_,rfl⟩
 obtain ⟨zc,HZC⟩:∃ z,Hid (z = (vall fs l).2.1):=⟨_,rfl⟩
 have hvs:=all_vsum fs l
 obtain ⟨ln,HLN⟩:∃ n,Hid (n = l.length):=⟨_,rfl⟩
 obtain ⟨fn,HFN⟩:∃ n,Hid (n = fs.length):=⟨_,rfl⟩
 have hal:all.length ≤ l.length:=by rw [HALL.out];exact vall_len fs l
 rw [← HALL.out] at hvs HV ⊢
 rw [← HLN.out] at HB HL HV HA hal hvs ⊢
 rw [← HFN.out] at HA ⊢
 have HVS:=hid hvs
 have HAL:=hid hal
 obtain ⟨X,HX⟩:∃ X,Hid (X = w.heap.size):=⟨_,rfl⟩
 obtain ⟨W1,HW1⟩:∃ W,Hid (W = (w.alloc (.cells #[.string nm,.slice fa fn fc] 51)).alloc (.cells #[.map none,.slice none 0 0] 118)):=⟨_,rfl⟩
 obtain ⟨W2,HW2⟩:∃ W,Hid (W = W1.alloc (.map #[] 0)):=⟨_,rfl⟩
 obtain ⟨W3,HW3⟩:∃ W,Hid (W = W2.alloc (.cells #[.map (some (X + 1 + 1)),.slice none 0 0] 118)):=⟨_,rfl⟩
 have hb1:Below w.heap.size w W1:=by rw [HW1.out];exact ((Below.refl _ _).alloc (Nat.le_refl _) _).alloc (by simp) _
 have hz1:W1.heap.size = X + 1 + 1:=by rw [HW1.out,HX.out];simp
 have hb2:Below W1.heap.size W1 W2:=by rw [HW2.out];exact (Below.refl _ _).alloc (Nat.le_refl _) _
 have hz2:W2.heap.size = X + 1 + 1 + 1:=by rw [HW2.out,← hz1];simp
 have hb3:Below W2.heap.size W2 W3:=by rw [HW3.out];exact (Below.refl _ _).alloc (Nat.le_refl _) _
 have hz3:W3.heap.size = X + 1 + 1 + 1 + 1:=by rw [HW3.out,← hz2];simp
 have hkM:Blk W1 X [.string nm,.slice fa fn fc] 51:=by rw [HW1.out,HX.out];exact (Blk.new w [.string nm,.slice fa fn fc] _).alloc _
 have hm2:MapIs W2 (X + 1 + 1) intK []:=by rw [HW2.out,← hz1];exact heap_alloc_new W1 _
 have hkP:Blk W3 (X + 1 + 1 + 1) [.map (some (X + 1 + 1)),noneS] 118:=by rw [HW3.out,← hz2];exact Blk.new W2 [.map (some (X + 1 + 1)),.slice none 0 0] _
 have hb03:Below w.heap.size w W3:=(hb1.trans (hb2.mono hb1.size)).trans (hb3.mono (Nat.le_trans hb1.size hb2.size))
 have HB03:=hid hb03
 have HM3:Hid (MapIs W3 (X + 1 + 1) intK []):=(hb3.block _ (by omega)).trans hm2
 have HP3:=hid hkP
 have HZ3:=hid hz3
 have hkM3:=(hkM.below hb2).below hb3
 have hkT:Blk W1 (X + 1) [.map none,noneS] 118:=by
  have e:(w.alloc (.cells #[.string nm,.slice fa fn fc] 51)).heap.size = w.heap.size + 1:=by simp
  rw [HW1.out,HX.out,← e]
  exact Blk.new (w.alloc (.cells #[.string nm,.slice fa fn fc] 51)) [.map none,.slice none 0 0] _
 have HT5:=hid ((hkT.below hb2).below hb3)
 have m0:=hkM3.cell 0 _ rfl
 have m1:=hkM3.cell 1 _ rfl
 have lM:=hkM3.lt
 have HA3:=hid (HA.out W3 hb03)
 have hmm:=@run_makeMap Tryz.prog
 obtain ⟨Q,HQ⟩:∃ Q:Ending → World → Prop,Hid (Q = GatherPost w l all):=⟨_,rfl⟩
 rw [← HQ.out]
 clear hb hl hf hv hb1 hb2 hb3 hkM hkT hm2 hkP hb03 hkM3 HA hvs hal
 go_enter Tryz.func49,Tryz.ntmps49
 go_upto_region 1 with fail
 rw [← HW1.out,← HX.out]
 go_upto_region 2 with fail
 rw [← HW2.out,← HW3.out]
 go_upto_region 3 with (go_at_call 43;refine HA3.out.mono ?_;rintro e W5 ⟨av,ab,rfl,hab,hrows,hb5⟩;rw [← HALL.out] at hrows;rw [← HZC.out,hok];obtain ⟨aa,ac,rfl⟩:=hrows.form)
 obtain ⟨r,HR⟩:∃ r,Hid (r = X + 1 + 1):=⟨_,rfl⟩
 obtain ⟨P,HPP⟩:∃ P,Hid (P = r + 1):=⟨_,rfl⟩
 rw [← HR.out] at HM3 HP3 HZ3 ⊢
 rw [← HPP.out] at HP3 HZ3 ⊢
 have hX5:P < W5.heap.size:=by have:=hb5.size;have:=HZ3.out;omega
 have hr5:r < W5.heap.size:=by have:=hb5.size;have:=HZ3.out;have:=HR.out;have:=HPP.out;omega
 have hne:P ≠ r:=by have:=HR.out;have:=HPP.out;omega
 have HG5:Hid (GI W5 r P l [] [] noneS W5):=GI.start ((hb5.block r (by have:=HZ3.out;have:=HR.out;have:=HPP.out;omega)).trans HM3.out) (HP3.out.below hb5)
 have HNE:=hid (And.intro hr5 (And.intro hX5 hne))
 have hb05:=HB03.out.trans (hb5.mono HB03.out.size)
 obtain ⟨an,HAN⟩:∃ n,Hid (n = all.length):=⟨_,rfl⟩
 rw [← HAN.out] at hrows HAL ⊢
 have HROWS:=hid hrows
 have HXS:Hid (w.heap.size = X):=HX.out.symm
 have HFR:Hid (∀ wi,Fr W5 r P wi → Below w.heap.size w wi ∧ (∀ b u j,ab ≤ b → b < W5.heap.size → W5.cell? ⟨b,j,none⟩ = some u → wi.cell? ⟨b,j,none⟩ = some u) ∧ Blk wi (X + 1) [.map none,noneS] 118):=by
  intro wi h
  refine ⟨⟨h.os.trans hb05.os,h.tape.trans hb05.tape,h.output.trans hb05.output,Nat.le_trans hb05.size h.size,fun b hb => ?_⟩,fun b u j h1 h2 hc => ?_,?_⟩
  ·
   have:=HX.out;have:=HR.out;have:=HPP.out
   exact (h.block b (by have:=hb05.size;omega) (by omega) (by omega)).trans (hb05.block b hb)
  ·
   rw [World.cell?_of_block (h.block b h2 (by have:=HZ3.out;have:=HR.out;have:=HPP.out;omega) (by have:=HZ3.out;omega))]
   exact hc
  ·
   exact (h.block (X + 1) (by have:=hb5.size;have:=HZ3.out;have:=HR.out;have:=HPP.out;omega) (by have:=HR.out;omega) (by have:=HR.out;have:=HPP.out;omega)).trans (HT5.out.below hb5)
 have hanb:an ≤ 1099511627776:=by have:=HL.out;have:=HAL.out;omega
 have HANB:=hid hanb
 clear hrows hb5 hb05 hX5 hr5 hne m0 m1 lM hmm HA3 HM3 HP3
 go_wp2_with fail
 go_loopw [22] (fun v22 wr => ∃ (k:Nat) (es:List (Int × Value)) (ua:Option Addr) (un uc:Nat),v22 = .int .i64 (k:Int) ∧ k ≤ an ∧ Hid (GI W5 r P l (all.take k) es (.slice ua un uc) wr)) (fun v22 _ => an - (intOf v22).toNat)
 case atStart => exact ⟨0,[],none,0,0,rfl,by omega,HG5.out⟩
 case round =>
  obtain ⟨k,es,ua,un,uc,rfl,hk,HI⟩:=hrel
  obtain ⟨hbw,hcv,hbt⟩:=HFR.out wr HI.out.fr
  have HBW:=hid hbw
  by_cases hlt:k < an
  ·
   obtain ⟨x,hx⟩:∃ x,all[k]? = some x:=⟨_,List.getElem?_eq_getElem (by rw [← HAN.out];exact hlt)⟩
   obtain ⟨vb,vo,haa,hvb1,hvb2,hvc⟩:=views_cells' HROWS.out (by rw [← HAN.out];have:=HANB.out;omega) k x hx
   subst haa
   have n0:=hcv vb _ (vo + k * 7 + 0) hvb1 hvb2 (hvc 0 _ rfl)
   have n1:=hcv vb _ (vo + k * 7 + 1) hvb1 hvb2 (hvc 1 _ rfl)
   have n2:=hcv vb _ (vo + k * 7 + 2) hvb1 hvb2 (hvc 2 _ rfl)
   have n3:=hcv vb _ (vo + k * 7 + 3) hvb1 hvb2 (hvc 3 _ rfl)
   have n4:=hcv vb _ (vo + k * 7 + 4) hvb1 hvb2 (hvc 4 _ rfl)
   have n5:=hcv vb _ (vo + k * 7 + 5) hvb1 hvb2 (hvc 5 _ rfl)
   have n6:=hcv vb _ (vo + k * 7 + 6) hvb1 hvb2 (hvc 6 _ rfl)
   rw [Nat.add_zero] at n0
   have HTK:Hid (all.take (k + 1) = all.take k ++ [x]):=by rw [Hid,List.take_add_one,hx];rfl
   obtain ⟨hx1,hx2⟩:=HV.out x (List.mem_of_getElem? hx)
   have HUL:Hid ((unkOf l (all.take k)).length ≤ ln ∧ (all.take k).length ≤ ln):=by
    have h1:=unkOf_le l (all.take k)
    have h2:=vsum_take all k
    have:=HVS.out
    have:=HAL.out
    have:=HAN.out
    exact ⟨by omega,by rw [List.length_take];omega⟩
   obtain ⟨⟨x1,x2,x3,x4,x5⟩,xk,xrun⟩:=x
   simp only at n0 n1 n2 n3 n4 n5 n6 hx1 hx2
   obtain ⟨W6,HW6⟩:∃ W6,Hid (W6 = wr.alloc (.cells #[.int .i64 x1,.int .i64 x2,.int .i64 x3,.int .i64 x4,.int .i64 x5,.int .i64 xk,.bool xrun] 109)):=⟨_,rfl⟩
   obtain ⟨VB,HVB⟩:∃ VB,Hid (VB = wr.heap.size):=⟨_,rfl⟩
   have hb6:Below wr.heap.size wr W6:=by rw [HW6.out];exact (Below.refl _ _).alloc (Nat.le_refl _) _
   have hv6:Blk W6 VB [.int .i64 x1,.int .i64 x2,.int .i64 x3,.int .i64 x4,.int .i64 x5,.int .i64 xk,.bool xrun] 109:=by rw [HW6.out,HVB.out];exact Blk.new wr [.int .i64 x1,.int .i64 x2,.int .i64 x3,.int .i64 x4,.int .i64 x5,.int .i64 xk,.bool xrun] _
   have HG6:Hid (GI W5 r P l (all.take k) es (.slice ua un uc) W6.drew):=(HI.out.below HNE.out.1 hb6).below HNE.out.1 (Below.refl _ _).drew
   have HV6:=hid hv6
   have HB6:Hid (Below w.heap.size w W6):=hbw.trans (hb6.mono hbw.size)
   have c5:=hv6.cell 5 _ rfl
   have HOB:Hid (∀ (n:Int) (b:Nat),(atK es n).ownBlock = some b → b < wr.heap.size):=fun n b e => ((HI.out.st.own n).own b e).2
   clear hvc hx hcv hbw hb6 hv6 HI hbt
   go_upto_region 6 with fail
   rw [← HW6.out,← HVB.out]
   clear n0 n1 n2 n3 n4 n5 n6
   by_cases hxk:xk < 0
   ·
    obtain ⟨pa,pc,hcut,-,hby⟩:=(HB.out.below HB6.out.drew).cut HLN.out x3 x5 hx1 (by have:=HLN.out;omega)
    obtain ⟨a5,n5,c5',w7,hr7,hb7,hg7⟩:=HG6.out.unkPush HNE.out.1 HNE.out.2.1 HNE.out.2.2 (x:=⟨⟨x1,x2,x3,x4,x5⟩,xk,xrun⟩) hxk hby rfl (by have:=HUL.out.1;have:=HL.out;rw [List.length_take];omega)
    have HR7:=hid hr7
    have HG7:=hid hg7
    have HST:Hid (GI W5 r P l (all.take (k + 1)) es (.slice a5 n5 c5') (w7.setCell ⟨P,1,none⟩ (.slice a5 n5 c5'))):=by rw [Hid,HTK.out];exact hg7
    have e1:W6.drew.cell? ⟨P,1,none⟩ = some (.slice ua un uc):=HG6.out.box.cell 1 _ rfl
    have k2:W6.drew.cell? ⟨VB,2,none⟩ = some (.int .i64 x3):=HV6.out.cell 2 _ rfl
    have k4:W6.drew.cell? ⟨VB,4,none⟩ = some (.int .i64 x5):=HV6.out.cell 4 _ rfl
    have e7:=hb7.cell 1 _ rfl
    have z7:=hb7.free 1
    have l7:=hb7.lt
    clear hby hb7 hg7 hr7 hx1 hx2
    go_wp2_with fail
    go_region_law (refine step_append_eq rfl (.tmp 30) (.tmp 38) _ rfl _ _ rfl rfl HR7.out ?_)
    all_goals
     go_wp2_with fail
     exact ⟨⟨k + 1,es,a5,n5,c5',by go_num,by omega,HST.out⟩,by simp [intOf];omega⟩
   ·
    obtain ⟨a5,n5,c5',w7,hr7,hk7,w8,hr8,es',hg8⟩:=HG6.out.viewPush HNE.out.1 HNE.out.2.1 HNE.out.2.2 (x:=⟨⟨x1,x2,x3,x4,x5⟩,xk,xrun⟩) (show 0 ≤ xk by omega) (n:=(x1:Int)) rfl (by have:=HUL.out.2;have:=HL.out;omega)
    have HST:Hid (GI W5 r P l (all.take (k + 1)) es' (.slice ua un uc) w8):=by rw [Hid,HTK.out];exact hg8
    have hlk:=parts_lookup HG6.out.st.map (x1:Int)
    obtain ⟨ka,kn,kc,hform⟩:∃ ka kn kc,atK es (x1:Int) = .slice ka kn kc:=by
     obtain ⟨a,c,e⟩:=(HG6.out.st.own (x1:Int)).form
     exact ⟨a,_,c,e⟩
    have hown:∀ b,(Value.slice ka kn kc).ownBlock = some b → W5.heap.size ≤ b ∧ b < wr.heap.size:=fun b e => by rw [← hform] at e;exact ⟨((HG6.out.st.own (x1:Int)).own b e).1,(HOB.out (x1:Int) b e)⟩
    rw [hform] at hlk hr7 hk7
    have HR7:Hid ((Builtin.append_ #[104,104] 104 #[.slice ka kn kc,.slice (some ⟨W6.drew.heap.size,0,none⟩) 1 1]).run Tryz.prog (W6.drew.alloc (.cells #[.int .i64 x1,.int .i64 x2,.int .i64 x3,.int .i64 x4,.int .i64 x5,.int .i64 xk,.bool xrun] 109)) = .ok (.slice a5 n5 c5') w7):=hr7
    have e0:W6.drew.cell? ⟨P,0,none⟩ = some (.map (some r)):=HG6.out.box.cell 0 _ rfl
    have k0:W6.drew.cell? ⟨VB,0,none⟩ = some (.int .i64 x1):=HV6.out.cell 0 _ rfl
    have k1:W6.drew.cell? ⟨VB,1,none⟩ = some (.int .i64 x2):=HV6.out.cell 1 _ rfl
    have k2:W6.drew.cell? ⟨VB,2,none⟩ = some (.int .i64 x3):=HV6.out.cell 2 _ rfl
    have k3:W6.drew.cell? ⟨VB,3,none⟩ = some (.int .i64 x4):=HV6.out.cell 3 _ rfl
    have k4:W6.drew.cell? ⟨VB,4,none⟩ = some (.int .i64 x5):=HV6.out.cell 4 _ rfl
    have k5:W6.drew.cell? ⟨VB,5,none⟩ = some (.int .i64 xk):=HV6.out.cell 5 _ rfl
    have k6:W6.drew.cell? ⟨VB,6,none⟩ = some (.bool xrun):=HV6.out.cell 6 _ rfl
    obtain ⟨SS,HSS⟩:∃ SS:World → Prop,Hid (SS = fun V => (V.cell? ⟨P,0,none⟩ = some (.map (some r)) ∧ V.cell? ⟨VB,0,none⟩ = some (.int .i64 x1) ∧ V.cell? ⟨VB,1,none⟩ = some (.int .i64 x2) ∧ V.cell? ⟨VB,2,none⟩ = some (.int .i64 x3) ∧ V.cell? ⟨VB,3,none⟩ = some (.int .i64 x4) ∧ V.cell? ⟨VB,4,none⟩ = some (.int .i64 x5) ∧ V.cell? ⟨VB,5,none⟩ = some (.int .i64 xk) ∧ V.cell? ⟨VB,6,none⟩ = some (.bool xrun)) ∧ MapIs V r intK es):=⟨_,rfl⟩
    have HKF:Hid (∀ V,SS V → V.cell? ⟨P,0,none⟩ = some (.map (some r)) ∧ V.cell? ⟨VB,0,none⟩ = some (.int .i64 x1) ∧ V.cell? ⟨VB,1,none⟩ = some (.int .i64 x2) ∧ V.cell? ⟨VB,2,none⟩ = some (.int .i64 x3) ∧ V.cell? ⟨VB,3,none⟩ = some (.int .i64 x4) ∧ V.cell? ⟨VB,4,none⟩ = some (.int .i64 x5) ∧ V.cell? ⟨VB,5,none⟩ = some (.int .i64 xk) ∧ V.cell? ⟨VB,6,none⟩ = some (.bool xrun)):=fun V hV => by rw [HSS.out] at hV;exact hV.1
    have HLK:Hid (∀ V,SS V → (Instr.lookup 116 (.map (some r)) (.int .i64 (x1:Int)) false).run Tryz.prog V = .ok (.slice ka kn kc) V):=fun V hV => by rw [HSS.out] at hV;rw [parts_lookup hV.2,hform]
    have HS0:Hid (SS W6.drew):=by rw [HSS.out];exact ⟨⟨e0,k0,k1,k2,k3,k4,k5,k6⟩,HG6.out.st.map⟩
    have HSK:Hid (∀ V,(∀ b,b < W6.drew.heap.size → (Value.slice ka kn kc).ownBlock ≠ some b → V.heap[b]? = W6.drew.heap[b]?) → SS V):=fun V hV => by
     have hc:∀ b j u,(Value.slice ka kn kc).ownBlock ≠ some b → W6.drew.cell? ⟨b,j,none⟩ = some u → V.cell? ⟨b,j,none⟩ = some u:=fun b j u hb hu => (World.cell?_of_block (hV b (World.block_lt_of_cell? _ _ hu) hb)).trans hu
     have hP:(Value.slice ka kn kc).ownBlock ≠ some P:=fun e => by have:=(hown P e).1;have:=HNE.out.2.1;omega
     have hVn:(Value.slice ka kn kc).ownBlock ≠ some VB:=fun e => by have:=(hown VB e).2;have:=HVB.out;omega
     rw [HSS.out]
     exact ⟨⟨hc _ _ _ hP e0,hc _ _ _ hVn k0,hc _ _ _ hVn k1,hc _ _ _ hVn k2,hc _ _ _ hVn k3,hc _ _ _ hVn k4,hc _ _ _ hVn k5,hc _ _ _ hVn k6⟩,(hV r (by have:=HG6.out.fr.size;have:=HNE.out.1;omega) (fun e => by have:=(hown r e).1;have:=HNE.out.1;omega)).trans HG6.out.st.map⟩
    have hs0:=HS0.out
    have hs1:SS (W6.drew.alloc (.cells #[.int .i64 x1,.int .i64 x2,.int .i64 x3,.int .i64 x4,.int .i64 x5,.int .i64 xk,.bool xrun] 109)):=HSK.out _ fun b hb _ => Below.heap_alloc _ _ b hb
    have hs2:SS w7:=HSK.out _ hk7
    clear hg8 hr7 hx1 hx2 hform hk7 hown e0 k0 k1 k2 k3 k4 k5 k6 hlk
    go_upto_region 8 with fail
    clear c5
    refine wp_region_E 14 SS (by kernel_rfl) ?_
    refine wpAnyE_take (i:=0) (oi:=⟨some 41,_,_,_,_,_⟩) (v:=?_) rfl (by kernel_rfl) (by kernel_rfl) (by kernel_rfl) (by kernel_rfl) (fun _ _ _ h => h) hs0 (Or.inl ⟨by rfl,?_⟩) ?_
    rotate_left
    ·
     (intro V hV;obtain ⟨k0,k1,k2,k3,k4,k5,k6,k7⟩:=HKF.out V hV;go_simp;(try with_reducible rfl))
    simp only [Act.put,List.setIfInBounds_toArray,List.set_cons_zero,List.set_cons_succ]
    refine wpAnyE_take (i:=1) (oi:=⟨some 42,_,_,_,_,_⟩) (v:=?_) rfl (by kernel_rfl) (by kernel_rfl) (by kernel_rfl) (by kernel_rfl) (fun _ _ _ h => h) hs0 (Or.inl ⟨by rfl,?_⟩) ?_
    rotate_left
    ·
     (intro V hV;obtain ⟨k0,k1,k2,k3,k4,k5,k6,k7⟩:=HKF.out V hV;go_simp;(try with_reducible rfl))
    simp only [Act.put,List.setIfInBounds_toArray,List.set_cons_zero,List.set_cons_succ]
    refine wpAnyE_take (i:=2) (oi:=⟨some 43,_,_,_,_,_⟩) (v:=?_) rfl (by kernel_rfl) (by kernel_rfl) (by kernel_rfl) (by kernel_rfl) (fun _ _ _ h => h) hs0 (Or.inl ⟨by rfl,?_⟩) ?_
    rotate_left
    ·
     (intro V hV;obtain ⟨k0,k1,k2,k3,k4,k5,k6,k7⟩:=HKF.out V hV;go_simp;(try with_reducible rfl))
    simp only [Act.put,List.setIfInBounds_toArray,List.set_cons_zero,List.set_cons_succ]
    refine wpAnyE_take (i:=3) (oi:=⟨some 44,_,_,_,_,_⟩) (v:=?_) rfl (by kernel_rfl) (by kernel_rfl) (by kernel_rfl) (by kernel_rfl) (fun _ _ _ h => h) hs0 (Or.inl ⟨by rfl,?_⟩) ?_
    rotate_left
    ·
     (intro V hV;obtain ⟨k0,k1,k2,k3,k4,k5,k6,k7⟩:=HKF.out V hV;go_simp;(try with_reducible rfl))
    simp only [Act.put,List.setIfInBounds_toArray,List.set_cons_zero,List.set_cons_succ]
    refine wpAnyE_take (i:=4) (oi:=⟨some 45,_,_,_,_,_⟩) (v:=?_) rfl (by kernel_rfl) (by kernel_rfl) (by kernel_rfl) (by kernel_rfl) (fun _ _ _ h => h) hs0 (Or.inl ⟨by rfl,?_⟩) ?_
    rotate_left
    ·
     (intro V hV;obtain ⟨k0,k1,k2,k3,k4,k5,k6,k7⟩:=HKF.out V hV;go_simp;(try with_reducible rfl))
    simp only [Act.put,List.setIfInBounds_toArray,List.set_cons_zero,List.set_cons_succ]
    refine wpAnyE_take (i:=5) (oi:=⟨some 46,_,_,_,_,_⟩) (v:=?_) rfl (by kernel_rfl) (by kernel_rfl) (by kernel_rfl) (by kernel_rfl) (fun _ _ _ h => h) hs0 (Or.inl ⟨by rfl,?_⟩) ?_
    rotate_left
    ·
     (intro V hV;obtain ⟨k0,k1,k2,k3,k4,k5,k6,k7⟩:=HKF.out V hV;go_simp;(try with_reducible rfl))
    simp only [Act.put,List.setIfInBounds_toArray,List.set_cons_zero,List.set_cons_succ]
    refine wpAnyE_take (i:=6) (oi:=⟨some 47,_,_,_,_,_⟩) (v:=?_) rfl (by kernel_rfl) (by kernel_rfl) (by kernel_rfl) (by kernel_rfl) (fun _ _ _ h => h) hs0 (Or.inl ⟨by rfl,?_⟩) ?_
    rotate_left
    ·
     (intro V hV;obtain ⟨k0,k1,k2,k3,k4,k5,k6,k7⟩:=HKF.out V hV;go_simp;(try with_reducible rfl))
    simp only [Act.put,List.setIfInBounds_toArray,List.set_cons_zero,List.set_cons_succ]
    refine wpAnyE_take (i:=7) (oi:=⟨some 48,_,_,_,_,_⟩) (v:=?_) rfl (by kernel_rfl) (by kernel_rfl) (by kernel_rfl) (by kernel_rfl) (fun _ _ _ h => h) hs0 (Or.inl ⟨by rfl,?_⟩) ?_
    rotate_left
    ·
     (intro V hV;obtain ⟨k0,k1,k2,k3,k4,k5,k6,k7⟩:=HKF.out V hV;go_simp;(try with_reducible rfl))
    simp only [Act.put,List.setIfInBounds_toArray,List.set_cons_zero,List.set_cons_succ]
    refine wpAnyE_take (i:=8) (oi:=⟨some 49,_,_,_,_,_⟩) (v:=?_) rfl (by kernel_rfl) (by kernel_rfl) (by kernel_rfl) (by kernel_rfl) (fun _ _ _ h => h) hs0 (Or.inl ⟨by rfl,?_⟩) ?_
    rotate_left
    ·
     (intro V hV;obtain ⟨k0,k1,k2,k3,k4,k5,k6,k7⟩:=HKF.out V hV;go_simp;(try with_reducible rfl))
    simp only [Act.put,List.setIfInBounds_toArray,List.set_cons_zero,List.set_cons_succ]
    refine wpAnyE_take (i:=9) (oi:=⟨some 50,_,_,_,_,_⟩) (v:=?_) rfl (by kernel_rfl) (by kernel_rfl) (by kernel_rfl) (by kernel_rfl) (fun _ _ _ h => h) hs0 (Or.inl ⟨by rfl,?_⟩) ?_
    rotate_left
    ·
     (intro V hV;obtain ⟨k0,k1,k2,k3,k4,k5,k6,k7⟩:=HKF.out V hV;go_simp;(try with_reducible rfl))
    simp only [Act.put,List.setIfInBounds_toArray,List.set_cons_zero,List.set_cons_succ]
    refine wpAnyE_take (i:=10) (oi:=⟨some 51,_,_,_,_,_⟩) (v:=?_) rfl (by kernel_rfl) (by kernel_rfl) (by kernel_rfl) (by kernel_rfl) (fun _ _ _ h => h) hs0 (Or.inl ⟨by rfl,?_⟩) ?_
    rotate_left
    ·
     (intro V hV;have hl:=HLK.out V hV;go_simp;(try with_reducible rfl))
    simp only [Act.put,List.setIfInBounds_toArray,List.set_cons_zero,List.set_cons_succ]
    refine wpAnyE_take (i:=11) (oi:=⟨some 52,_,_,_,_,_⟩) (v:=?_) rfl (by kernel_rfl) (by kernel_rfl) (by kernel_rfl) (by kernel_rfl) (fun _ _ _ h => h) hs0 (Or.inl ⟨by rfl,?_⟩) ?_
    rotate_left
    ·
     (intro V hV;obtain ⟨k0,k1,k2,k3,k4,k5,k6,k7⟩:=HKF.out V hV;go_simp;(try with_reducible rfl))
    simp only [Act.put,List.setIfInBounds_toArray,List.set_cons_zero,List.set_cons_succ]
    refine wpAnyE_one (i:=12) (oi:=⟨some 53,_,_,_,_,_⟩) (by kernel_rfl) rfl rfl fun K12 hK12 => ?_
    go_simp
    refine hK12.out _ _ (fun _ => hs1) ?_
    try simp only [Act.put,List.setIfInBounds_toArray,List.set_cons_zero,List.set_cons_succ]
    refine wpAnyE_one (i:=13) (oi:=⟨some 54,_,_,_,_,_⟩) (by kernel_rfl) rfl rfl fun K13 hK13 => ?_
    refine wp_append_eq (.tmp 51) (.tmp 53) _ rfl _ _ rfl rfl HR7.out ?_
    refine hK13.out _ _ (fun _ => hs2) ?_
    try simp only [Act.put,List.setIfInBounds_toArray,List.set_cons_zero,List.set_cons_succ]
    refine wpAnyE_one (i:=14) (oi:=⟨none,_,_,_,_,_⟩) (by kernel_rfl) rfl rfl fun K14 hK14 => ?_
    go_simp
    refine hK14.out _ _ (fun h => absurd rfl h) ?_
    try simp only [Act.put,List.setIfInBounds_toArray,List.set_cons_zero,List.set_cons_succ]
    refine wpAnyE_done (by kernel_rfl) ?_ _
    go_wp2_with fail
    exact ⟨⟨k + 1,es',ua,un,uc,by go_num,by omega,HST.out⟩,by simp [intOf];omega⟩
  ·
   obtain rfl:k = an:=by omega
   have hT:all.take k = all:=by rw [HAN.out,List.take_length]
   have hG:=HI.out
   rw [hT] at hG
   have g0:=hG.box.cell 0 _ rfl
   have g1:=hG.box.cell 1 _ rfl
   have gl:=hG.box.lt
   have t0:=hbt.cell 0 _ rfl
   have t1:=hbt.cell 1 _ rfl
   have tl:=hbt.lt
   have f0:=hbt.free 0
   have f1:=hbt.free 1
   have s1:=hbt.set 0 (.map (some r))
   have t3:=s1.cell 1 _ rfl
   have f3:=s1.free 1
   have s2:=s1.set 1 (.slice ua un uc)
   have t4:=s2.cell 0 _ rfl
   have t5:=s2.cell 1 _ rfl
   have t6:=s2.lt
   have HG:=hid hG
   have HTB:=hid hbt
   clear hG hcv hbw hbt s1 s2
   go_wp2_with fail
   obtain ⟨WF,HWF⟩:∃ W,Hid (W = (wr.setCell ⟨X + 1,0,none⟩ (.map (some r))).setCell ⟨X + 1,1,none⟩ (.slice ua un uc)):=⟨_,rfl⟩
   have hkk:∀ b,b ≠ X + 1 → WF.heap[b]? = wr.heap[b]?:=fun b hb => by
    rw [HWF.out,Below.heap_setCell _ _ _ b (by show b ≠ X + 1;exact hb),Below.heap_setCell _ _ _ b (by show b ≠ X + 1;exact hb)]
   have hss:wr.heap.size ≤ WF.heap.size:=by rw [HWF.out];simp
   have hGo:=HG.out
   have hXr:X + 1 < W5.heap.size ∧ X + 1 ≠ r ∧ w.heap.size ≤ W5.heap.size ∧ w.heap.size ≤ X + 1:=by have:=HR.out;have:=HPP.out;have:=HNE.out;have:=HX.out;omega
   refine bodyPost_ret (v:=.agg #[.map (some r),.slice ua un uc]) ?_ rfl ?_
   ·
    simp [results,Tryz.results49,go_sem,t4,t5]
   ·
    rw [← HWF.out,HQ.out]
    refine ⟨r,_,es,rfl,(hkk r (by omega)).trans hGo.st.map,fun n => ?_,?_,?_⟩
    ·
     have h1:OwnV WF W5.heap.size (atK es n) (numsOf all n):=ownV_keep (hGo.st.own n) fun b e => hkk b (by have:=((hGo.st.own n).own b e).1;omega)
     exact ownV_mono h1 hXr.2.2.1
    ·
     have h1:Own WF W5.heap.size (.slice ua un uc) (unkOf l all):=own_keep' hGo.un fun b e => hkk b (by have:=(hGo.un.own b e).1;omega)
     exact h1.mono hXr.2.2.1
    ·
     have g1:=HBW.out.grown (cell_grown wr ⟨X + 1,0,none⟩ (.map (some r))) HBW.out.size (fun q e => by have h2:X + 1 = q:=Option.some.inj e;omega)
     have g2:=g1.grown (cell_grown (wr.setCell ⟨X + 1,0,none⟩ (.map (some r))) ⟨X + 1,1,none⟩ (.slice ua un uc)) g1.size (fun q e => by have h2:X + 1 = q:=Option.some.inj e;omega)
     rw [HWF.out];exact g2
end Go.Proofs.YtphkmpnahnakaaaGreat
namespace Go.Proofs.YtphkmpnahnakaaaGreat
variable {T:Type}
def swpL (d:T) (l:List T) (i j:Nat):List T:=(l.set i (l.getD j d)).set j (l.getD i d)
theorem getD_mid (d:T) (A:List T) (x:T) (B:List T) (n:Nat) (h:n = A.length):(A ++ x :: B).getD n d = x:=by
 subst h;simp [List.getD]
theorem set_mid (A:List T) (x y:T) (B:List T) (n:Nat) (h:n = A.length):(A ++ x :: B).set n y = A ++ y :: B:=by
 subst h;simp
theorem swpL_two (d:T) (A B C:List T) (x y:T) (i j:Nat) (hi:i = A.length) (hj:j = A.length + 1 + B.length) :
  swpL d (A ++ x :: (B ++ y :: C)) i j = A ++ y :: (B ++ x :: C):=by
 unfold swpL
 have e:∀ z:T,A ++ z :: (B ++ y :: C) = (A ++ z :: B) ++ y :: C:=fun z => by simp
 rw [getD_mid d A x _ i hi,set_mid A x _ _ i hi,e x,getD_mid d (A ++ x :: B) y C j (by simp;omega),e y,set_mid (A ++ y :: B) y x C j (by simp;omega)]
 simp
theorem swpL_two' (d:T) (A B C:List T) (x y:T) (i j:Nat) (hi:i = A.length) (hj:j = A.length + 1 + B.length) :
  swpL d (A ++ x :: (B ++ y :: C)) j i = A ++ y :: (B ++ x :: C):=by
 unfold swpL
 have e:∀ z:T,A ++ z :: (B ++ y :: C) = (A ++ z :: B) ++ y :: C:=fun z => by simp
 rw [getD_mid d A x _ i hi,e x,getD_mid d (A ++ x :: B) y C j (by simp;omega),set_mid (A ++ x :: B) y x C j (by simp;omega)]
 rw [show (A ++ x :: B) ++ x :: C = A ++ x :: (B ++ x :: C) by simp,set_mid A x y _ i hi]
def putAt (P Z:List T) (k:Nat) (x:T) (S:List T):List T:=P ++ (Z.take k ++ x :: Z.drop k) ++ S
theorem putAt_len (P Z:List T) (k:Nat) (x:T) (S:List T):(putAt P Z k x S).length = P.length + Z.length + 1 + S.length:=by
 unfold putAt
 simp only [List.length_append,List.length_cons,List.length_take,List.length_drop]
 omega
theorem putAt_get (d:T) (P Z:List T) (k:Nat) (x:T) (S:List T) (hk:k ≤ Z.length) (n:Nat) (hn:n = P.length + k):(putAt P Z k x S).getD n d = x:=by
 unfold putAt
 rw [← List.append_assoc,List.append_assoc,List.cons_append]
 exact getD_mid d _ x _ n (by rw [List.length_append,List.length_take];omega)
theorem putAt_eq (P Z:List T) (k:Nat) (x y:T) (S:List T) (hy:Z[k]? = some y):putAt P Z k x S = (P ++ Z.take k) ++ x :: ([] ++ y :: (Z.drop (k + 1) ++ S)) ∧ putAt P Z (k + 1) x S = (P ++ Z.take k) ++ y :: ([] ++ x :: (Z.drop (k + 1) ++ S)):=by
 obtain ⟨hl,e⟩:=List.getElem?_eq_some_iff.1 hy
 unfold putAt
 constructor
 ·
  rw [List.drop_eq_getElem_cons hl,e];simp
 ·
  rw [List.take_succ_eq_append_getElem hl,e];simp
theorem putAt_up (d:T) (P Z:List T) (k:Nat) (x y:T) (S:List T) (hy:Z[k]? = some y) (i j:Nat) (hi:i = P.length + k) (hj:j = i + 1) :
  (putAt P Z k x S).getD j d = y ∧ swpL d (putAt P Z k x S) i j = putAt P Z (k + 1) x S ∧ swpL d (putAt P Z (k + 1) x S) j i = putAt P Z k x S ∧ (putAt P Z (k + 1) x S).getD i d = y:=by
 have hk:k < Z.length:=(List.getElem?_eq_some_iff.1 hy).1
 obtain ⟨e1,e2⟩:=putAt_eq P Z k x y S hy
 have hl:(P ++ Z.take k).length = i:=by rw [List.length_append,List.length_take];omega
 refine ⟨?_,?_,?_,?_⟩
 ·
  rw [e1,show (P ++ Z.take k) ++ x :: ([] ++ y :: (Z.drop (k + 1) ++ S)) = (P ++ Z.take k ++ [x]) ++ y :: (Z.drop (k + 1) ++ S) by simp]
  exact getD_mid d _ y _ j (by rw [List.length_append,hl];simp;omega)
 ·
  rw [e1,e2,swpL_two d (P ++ Z.take k) [] (Z.drop (k + 1) ++ S) x y i j hl.symm (by rw [hl];simp;omega)]
 ·
  rw [e1,e2,swpL_two' d (P ++ Z.take k) [] (Z.drop (k + 1) ++ S) y x i j hl.symm (by rw [hl];simp;omega)]
 ·
  rw [e2];exact getD_mid d _ y _ i hl.symm
def swpRun (U X V Y W:List T) (k:Nat):List T:=U ++ (Y.take k ++ X.drop k) ++ V ++ (X.take k ++ Y.drop k) ++ W
theorem swpRun_zero (U X V Y W:List T):swpRun U X V Y W 0 = U ++ X ++ V ++ Y ++ W:=by simp [swpRun]
theorem swpRun_end (U X V Y W:List T) (k:Nat) (hx:X.length = k) (hy:Y.length = k):swpRun U X V Y W k = U ++ Y ++ V ++ X ++ W:=by
 unfold swpRun
 rw [List.take_of_length_le (by omega),List.take_of_length_le (by omega),List.drop_eq_nil_of_le (by omega),List.drop_eq_nil_of_le (by omega)]
 simp
theorem swpRun_len (U X V Y W:List T) (k:Nat) (h:X.length = Y.length):(swpRun U X V Y W k).length = U.length + X.length + V.length + Y.length + W.length:=by
 unfold swpRun
 simp only [List.length_append,List.length_take,List.length_drop]
 omega
theorem swpRun_step (d:T) (U X V Y W:List T) (k n:Nat) (hx:X.length = n) (hy:Y.length = n) (hk:k < n) (i j:Nat) (hi:i = U.length + k) (hj:j = U.length + n + V.length + k) :
  ∃ x y,(swpRun U X V Y W k).getD i d = x ∧ (swpRun U X V Y W k).getD j d = y ∧ swpL d (swpRun U X V Y W k) i j = swpRun U X V Y W (k + 1):=by
 have hX:X[k]? = some (X[k]'(by omega)):=List.getElem?_eq_getElem (by omega)
 have hY:Y[k]? = some (Y[k]'(by omega)):=List.getElem?_eq_getElem (by omega)
 generalize hxe:X[k]'(by omega) = x at hX
 generalize hye:Y[k]'(by omega) = y at hY
 have e1:swpRun U X V Y W k = (U ++ Y.take k) ++ x :: ((X.drop (k + 1) ++ V ++ X.take k) ++ y :: (Y.drop (k + 1) ++ W)):=by
  unfold swpRun
  rw [List.drop_eq_getElem_cons (l:=X) (by omega),List.drop_eq_getElem_cons (l:=Y) (by omega),hxe,hye];simp
 have e2:swpRun U X V Y W (k + 1) = (U ++ Y.take k) ++ y :: ((X.drop (k + 1) ++ V ++ X.take k) ++ x :: (Y.drop (k + 1) ++ W)):=by
  unfold swpRun
  rw [List.take_succ_eq_append_getElem (l:=X) (by omega),List.take_succ_eq_append_getElem (l:=Y) (by omega),hxe,hye];simp
 have hl:(U ++ Y.take k).length = i:=by rw [List.length_append,List.length_take];omega
 refine ⟨_,_,rfl,rfl,?_⟩
 rw [e1,e2]
 exact swpL_two d _ _ _ x y i j hl.symm (by rw [hl];simp only [List.length_append,List.length_drop,List.length_take];omega)
end Go.Proofs.YtphkmpnahnakaaaGreat
namespace Go.Proofs.YtphkmpnahnakaaaGreat
open Go.RowKit
def IRow (w:World) (g:Nat) (l:List Int):Prop:=∃ cur:Array Value,w.heap[g]? = some (.cells cur 3 (0,0)) ∧ l.length ≤ cur.size ∧ cur.toList.take l.length = l.map intV
theorem IRow.lt {w:World} {g:Nat} {l:List Int} (h:IRow w g l):g < w.heap.size:=by
 obtain ⟨cur,h1,-⟩:=h
 exact (Array.getElem?_eq_some_iff.1 h1).1
theorem IRow.cell {w:World} {g:Nat} {l:List Int} (h:IRow w g l) (k:Nat) (hk:k < l.length):w.cell? ⟨g,k,none⟩ = some (.int .i64 (l.getD k 0)):=by
 obtain ⟨cur,h1,h2,h3⟩:=h
 rw [cell_of_row _ _ _ cur _ (0,0) h1]
 have h4:=congrArg (fun l:List Value => l[k]?) h3
 simp only [List.getElem?_take,hk,if_true,List.getElem?_map,Array.getElem?_toList] at h4
 rw [h4,List.getD_eq_getElem?_getD,List.getElem?_eq_getElem hk]
 rfl
theorem IRow.free {w:World} {g:Nat} {l:List Int} (h:IRow w g l) (k:Nat):w.frozen? ⟨g,k,none⟩ = false:=by
 obtain ⟨cur,h1,-⟩:=h
 simp [World.frozen?,h1]
theorem IRow.of_block {w w':World} {g:Nat} {l:List Int} (h:IRow w g l) (hb:w'.heap[g]? = w.heap[g]?):IRow w' g l:=by
 obtain ⟨cur,h1,h2⟩:=h
 exact ⟨cur,hb.trans h1,h2⟩
theorem IRow.below {w w':World} {g:Nat} {l:List Int} (h:IRow w g l) (hb:Below w.heap.size w w'):IRow w' g l:=h.of_block (hb.block g h.lt)
theorem IRow.set {w:World} {g:Nat} {l:List Int} (h:IRow w g l) (k:Nat) (_hk:k < l.length) (x:Int):IRow (w.setCell ⟨g,k,none⟩ (.int .i64 x)) g (l.set k x):=by
 obtain ⟨cur,h1,h2,h3⟩:=h
 obtain ⟨hlt,hc⟩:=Array.getElem?_eq_some_iff.1 h1
 refine ⟨cur.set! k (.int .i64 x),?_,by simpa using h2,?_⟩
 ·
  show (w.heap.modify g _)[g]? = _
  rw [Array.getElem?_eq_getElem (by rw [Array.size_modify];exact hlt),Array.getElem_modify_self,hc]
  simp
 ·
  rw [Array.set!_eq_setIfInBounds,Array.toList_setIfInBounds,List.length_set,List.take_set,h3,List.map_set]
  rfl
theorem IRow.swap {w:World} {g:Nat} {l:List Int} (h:IRow w g l) (i j:Nat) (hi:i < l.length) (hj:j < l.length) (x y:Int) (hx:l.getD i 0 = x) (hy:l.getD j 0 = y) :
  IRow ((w.setCell ⟨g,i,none⟩ (.int .i64 y)).setCell ⟨g,j,none⟩ (.int .i64 x)).drew g (swpL 0 l i j):=by
 have h1:=(h.set i hi y).set j (by simpa using hj) x
 subst hx
 subst hy
 exact h1.of_block rfl
theorem grown_setS {w0 w:World} {g:Nat} (h:w0.grownBy w (some g)) (k:Nat) (v:Value):w0.grownBy (w.setCell ⟨g,k,none⟩ v) (some g):=
 ⟨h.os,h.tape,h.output,by simpa using h.size,fun b hb hne => (Below.heap_setCell w _ v b (fun e => hne (by rw [e]))).trans (h.block b hb hne)⟩
theorem grown_drew {w0 w:World} {r:Option Nat} (h:w0.grownBy w r):w0.grownBy w.drew r:=⟨h.os,h.tape,h.output,h.size,h.block⟩
theorem grown_belowS {w0 w w':World} {r:Option Nat} (h:w0.grownBy w r) (hb:Below w.heap.size w w'):w0.grownBy w' r:=
 ⟨hb.os.trans h.os,hb.tape.trans h.tape,hb.output.trans h.output,Nat.le_trans h.size hb.size,fun k hk hr => (hb.block k (Nat.lt_of_lt_of_le hk h.size)).trans (h.block k hk hr)⟩
theorem grown_drewN {w0 w:World} {r:Option Nat} (h:w0.grownBy w r) (n:Nat):w0.grownBy (w.drewN n) r:=⟨h.os,h.tape,h.output,h.size,h.block⟩
theorem cell_set_some {w:World} {g:Nat} (i j:Nat) (u v:Value) (h:w.cell? ⟨g,j,none⟩ = some u) (_hi:∃ u',w.cell? ⟨g,i,none⟩ = some u'):∃ u',(w.setCell ⟨g,i,none⟩ v).cell? ⟨g,j,none⟩ = some u':=by
 by_cases e:i = j
 ·
  subst e;exact ⟨v,World.cell?_setCell_same _ _ _ h⟩
 ·
  exact ⟨_,(World.cell?_setCell_other _ _ _ _ (by intro e';simp only [Addr.mk.injEq] at e';omega)).trans h⟩
def CmpI (F:Nat) (cap:Array Value) (cf:Int → Int → Int) (w0:World) (g:Nat) (X:List Int):Prop:=
 ∀ (x y:Int) (wr:World),x ∈ X → y ∈ X → w0.grownBy wr (some g) → Calls Tryz.prog F (#[.int .i64 x,.int .i64 y] ++ cap) wr fun e w' => e = .returned (.int .i64 (cf x y)) ∧ Below wr.heap.size wr w'
theorem CmpI.sub {F:Nat} {cap:Array Value} {cf:Int → Int → Int} {w0:World} {g:Nat} {X Y:List Int} (h:CmpI F cap cf w0 g X) (hs:∀ x ∈ Y,x ∈ X):CmpI F cap cf w0 g Y:=
 fun x y wr hx hy hw => h x y wr (hs x hx) (hs y hy) hw
def Agree (cf:Int → Int → Int) (R:Int → Int → Prop) (x y:Int):Prop:=(cf y x < 0 ↔ R y x) ∧ (R x y ∨ R y x)
def SortPost (w0:World) (g:Nat) (R:Int → Int → Prop) (P X S:List Int) (e:Ending) (w':World):Prop:=
 e = .returned (.tuple #[]) ∧ ∃ Z:List Int,Z.Perm X ∧ Z.Pairwise R ∧ IRow w' g (P ++ Z ++ S) ∧ w0.grownBy w' (some g)
theorem agree_at {cf:Int → Int → Int} {R:Int → Int → Prop} {X:List Int} (h:X.Pairwise (Agree cf R)) {k:Nat} {x z:Int} (hx:X[k]? = some x) (hz:z ∈ X.take k):Agree cf R z x:=by
 have h':=h
 rw [← List.take_append_drop k X,drop_at hx] at h'
 exact (List.pairwise_append.1 h').2.2 z hz x (by simp)
theorem size_intw (w:World):(sizeOf 3).run Tryz.prog w = .ok 1 w:=by kernel_rfl
set_option maxRecDepth 100000 in
set_option maxHeartbeats 8000000 in
theorem insSort_int {w0 w:World} {g c N:Nat} {P X S:List Int} (hN:N = (P ++ X ++ S).length) (hN40:N ≤ 1099511627776) (F:Nat) (cap:Array Value) (cf:Int → Int → Int) (hcf:∀ (args:Array Value) (w:World),(callFunc F args).run Tryz.prog w = .ok (.enter F args) w)
  (hcmp:CmpI F cap cf w0 g X) {R:Int → Int → Prop} (ht:∀ x y z,R x y → R y z → R x z) (hA:X.Pairwise (Agree cf R)) (hI:IRow w g (P ++ X ++ S)) (hG:w0.grownBy w (some g)) (a b:Nat) (ha:a = P.length) (hb:b = P.length + X.length) :
  Calls Tryz.prog 130 #[.slice (some ⟨g,0,none⟩) N c,.int .i64 (a:Int),.int .i64 (b:Int),.func (.func F) #[] cap] w (SortPost w0 g R P X S):=by
 have HCM:=hid hcmp
 have HT:=hid ht
 have HA:=hid hA
 have HI:=hid (And.intro hI hG)
 have HAB:=hid (And.intro ha hb)
 have HN:=hid hN
 have hbN:b ≤ N:=by rw [hb,hN];simp only [List.length_append];omega
 have haN:a ≤ b:=by rw [ha,hb];omega
 obtain ⟨Q,HQ⟩:∃ Q:Ending → World → Prop,Hid (Q = SortPost w0 g R P X S):=⟨_,rfl⟩
 rw [← HQ.out]
 have HIX:Hid (∀ k:Nat,k < N → ∀ W,(Instr.indexAt 33 (.slice (some ⟨g,0,none⟩) N c) (.int .i64 (k:Int))).run Tryz.prog W = .ok (.pointer (some ⟨g,k,none⟩)) W):=by
  intro k hk W
  have:=index_run1 Tryz.underlying33 size_intw (a:=some ⟨g,0,none⟩) rfl k hk W (cap:=c)
  rwa [Nat.zero_add] at this
 clear hcmp ht hA hI hG ha hb hN
 go_enter Tryz.func130,Tryz.ntmps130
 go_wp2_with fail
 go_loopw [8] (fun v8 wr => ∃ (i k:Nat) (Z:List Int),v8 = .int .i64 (i:Int) ∧ a + 1 ≤ i ∧ i ≤ b + 1 ∧ Hid (i = a + k ∧ k ≤ max 1 X.length ∧ Z.Perm (X.take k) ∧ Z.Pairwise R ∧ IRow wr g (P ++ Z ++ (X.drop k ++ S)) ∧ w0.grownBy wr (some g))) (fun v8 _ => b + 1 - (intOf v8).toNat)
 case atStart =>
  refine ⟨a + 1,1,X.take 1,by go_num,by omega,by omega,rfl,by omega,List.Perm.refl _,?_,?_,HI.out.2⟩
  ·
   rcases X with _ | ⟨x,r⟩ <;> simp
  ·
   have:=HI.out.1
   rw [← List.append_assoc,List.append_assoc P,List.take_append_drop];exact this
 case round =>
  obtain ⟨i,k,Z,rfl,hk1,hkb,HZ'⟩:=hrel
  have HIK:Hid (i = a + k):=HZ'.out.1
  have HZ:=hid HZ'.out.2
  clear HZ'
  by_cases hlt:i < b
  ·
   have hkX:k < X.length:=by have:=HAB.out;have:=HIK.out;omega
   obtain ⟨x,hx⟩:∃ x,X[k]? = some x:=⟨_,List.getElem?_eq_getElem hkX⟩
   have hZl:Z.length = k:=by rw [HZ.out.2.1.length_eq,List.length_take];omega
   obtain ⟨SS,HSS⟩:∃ SS,Hid (SS = X.drop (k + 1) ++ S):=⟨_,rfl⟩
   have HX:=hid hx
   have HZL:=hid hZl
   have HKX:=hid hkX
   clear hx hZl hkX
   obtain ⟨wo,rfl⟩:∃ wo:World,wo = wr:=⟨_,rfl⟩
   go_wp2_with fail
   go_loopw [9] (fun v9 wr2 => ∃ j t:Nat,v9 = .int .i64 (j:Int) ∧ a ≤ j ∧ j ≤ i ∧ Hid (j = a + t ∧ (Z.length ≤ t ∨ ∃ y,Z[t]? = some y ∧ R x y) ∧ IRow wr2 g (putAt P Z t x SS) ∧ w0.grownBy wr2 (some g))) (fun v9 _ => (intOf v9).toNat)
   case atStart =>
    refine ⟨i,k,rfl,by omega,Nat.le_refl _,HIK.out,.inl (by rw [HZL.out];exact Nat.le_refl _),?_,HZ.out.2.2.2.2⟩
    have h1:=HZ.out.2.2.2.1
    rw [drop_at HX.out,List.cons_append,← HSS.out] at h1
    have h2:putAt P Z k x SS = P ++ Z ++ x :: SS:=by
     unfold putAt
     rw [List.take_of_length_le (by rw [HZL.out];omega),List.drop_eq_nil_of_le (by rw [HZL.out];omega)]
     simp
    rw [h2];exact h1
   case round =>
    obtain ⟨j,t,rfl,hja,hji,HT2'⟩:=hrel
    have HJ:Hid (j = a + t):=HT2'.out.1
    have HT2:=hid HT2'.out.2
    have ht:t ≤ k:=by have:=HIK.out;have:=HJ.out;omega
    clear HT2'
    have HL:Hid (N = (putAt P Z t x SS).length):=by
     rw [Hid,putAt_len,HN.out,HSS.out,HZL.out]
     simp only [List.length_append,List.length_drop]
     have:=HKX.out
     omega
    have HGX:Hid ((putAt P Z t x SS).getD j 0 = x):=putAt_get 0 P Z t x SS (by rw [HZL.out];exact ht) _ (by rw [HJ.out,HAB.out.1])
    have HOUT:Hid (t = 0 ∨ (∃ y,Z[t - 1]? = some y ∧ R y x) → (Z.take t ++ x :: Z.drop t).Perm (X.take (k + 1)) ∧ (Z.take t ++ x :: Z.drop t).Pairwise R):=by
     intro h
     refine ⟨(perm_insert x t).trans ?_,srt_insert HT.out HZ.out.2.2.1 t h HT2.out.1⟩
     rw [List.take_add_one,HX.out]
     exact (List.Perm.cons x HZ.out.2.1).trans (List.perm_append_singleton x _).symm
    have hjN:j < N:=by omega
    have hix:=HIX.out j hjN
    have g0:=HT2.out.2.1.cell j (by rw [← HL.out];exact hjN)
    rw [HGX.out] at g0
    by_cases ht0:t = 0
    ·
     have hjl:decide ((j:Int) > (a:Int)) = false:=decide_eq_false (by rw [HJ.out];omega)
     have hjl2:decide ((a:Int) < (j:Int)) = false:=decide_eq_false (by rw [HJ.out];omega)
     have hjl3:decide (a < j) = false:=decide_eq_false (by rw [HJ.out];omega)
     have HO:=hid (HOUT.out (.inl ht0))
     clear ht0
     go_wp2_with fail
     go_quiet (fail)
     go_wp2_with fail
     go_roundw
     case rel => exact ⟨i + 1,k + 1,_,by go_num,by omega,by omega,by have:=HIK.out;omega,by have:=HKX.out;omega,HO.out.1,HO.out.2,by have h:=HT2.out.2.1;unfold putAt at h;rw [HSS.out] at h;refine IRow.of_block (w:=wr) ?_ rfl;simpa using h,grown_drewN HT2.out.2.2 _⟩
     case measure => simp [intOf];omega
    ·
     obtain ⟨tp,rfl⟩:∃ tp,t = tp + 1:=⟨t - 1,by omega⟩
     obtain ⟨y,hy⟩:∃ y,Z[tp]? = some y:=⟨_,List.getElem?_eq_getElem (by rw [HZL.out];omega)⟩
     have HY:=hid hy
     obtain ⟨jp,HJP⟩:∃ jp,Hid (jp = a + tp):=⟨_,rfl⟩
     have hj1:a + 1 ≤ j:=by rw [HJ.out];omega
     have hjp:(jp:Int) = (j:Int) - 1:=by have:=HJP.out;have:=HJ.out;omega
     have hjpN:jp < N:=by omega
     have HUP:=hid (putAt_up 0 P Z tp x y SS hy jp j (by rw [HJP.out,HAB.out.1]) (by omega))
     have hix2:=HIX.out jp hjpN
     rw [hjp] at hix2
     have g1:=HT2.out.2.1.cell jp (by rw [← HL.out];exact hjpN)
     rw [HUP.out.2.2.2] at g1
     have HAG:Hid (Agree cf R y x):=agree_at HA.out HX.out (HZ.out.2.1.mem_iff.1 (List.mem_of_getElem? hy))
     have HC1:=hid (HCM.out x y wr.drew (List.mem_of_getElem? HX.out) (List.mem_of_mem_take (HZ.out.2.1.mem_iff.1 (List.mem_of_getElem? hy))) (grown_drew HT2.out.2.2))
     have hw1:IntKind.i64.wrap ((j:Int) - 1) = (j:Int) - 1:=by rw [IntKind.wrap_i64];omega
     have hjl:decide ((j:Int) > (a:Int)) = true:=decide_eq_true (by rw [HJ.out];omega)
     have hjl2:decide ((a:Int) < (j:Int)) = true:=decide_eq_true (by rw [HJ.out];omega)
     have hjl3:decide (a < j) = true:=decide_eq_true (by rw [HJ.out];omega)
     clear hy ht0 hjp hj1
     go_wp2_with fail
     go_still_tail 14,(by kernel_rfl)
     change wpList _ _ _ _ _ wr.drew
     go_wp2_with fail
     refine HC1.out.mono ?_
     rintro e w3 ⟨rfl,hb3⟩
     have HT3:Hid (IRow w3 g (putAt P Z (tp + 1) x SS) ∧ w0.grownBy w3 (some g)):=⟨(HT2.out.2.1.of_block (w':=wr.drew) rfl).below hb3,grown_belowS (grown_drew HT2.out.2.2) hb3⟩
     by_cases hc:cf x y < 0
     ·
      have hc1:decide (cf x y < 0) = true:=decide_eq_true hc
      have HRY:Hid (R x y):=HAG.out.1.1 hc
      have g0:=HT3.out.1.cell j (by rw [← HL.out];exact hjN)
      rw [HGX.out] at g0
      have g1:=HT3.out.1.cell jp (by rw [← HL.out];exact hjpN)
      rw [HUP.out.2.2.2] at g1
      have f0:=HT3.out.1.free j
      have f1:=HT3.out.1.free jp
      obtain ⟨u2,g2⟩:=cell_set_some j jp _ (.int .i64 y) g1 ⟨_,g0⟩
      have HSW:=hid (HT3.out.1.swap j jp (by rw [← HL.out];exact hjN) (by rw [← HL.out];exact hjpN) x y HGX.out HUP.out.2.2.2)
      rw [HUP.out.2.2.1] at HSW
      clear hb3 hc
      go_wp2_with fail
      go_big_region
      go_wp2_with fail
      go_roundw
      case rel => exact ⟨jp,tp,by have:=HJP.out;have:=HJ.out;go_num,by have:=HJP.out;omega,by have:=HJP.out;have:=HJ.out;omega,HJP.out,.inr ⟨y,HY.out,HRY.out⟩,HSW.out,grown_drew (grown_setS (grown_setS HT3.out.2 _ _) _ _)⟩
      case measure => simp [intOf];have:=HJP.out;have:=HJ.out;omega
     ·
      have hc1:decide (cf x y < 0) = false:=decide_eq_false hc
      have HRY:Hid (R y x):=HAG.out.2.resolve_right fun h => hc (HAG.out.1.2 h)
      have HO:=hid (HOUT.out (.inr ⟨y,by simpa using HY.out,HRY.out⟩))
      clear hb3 hc
      go_wp2_with fail
      go_roundw
      case rel => exact ⟨i + 1,k + 1,_,by go_num,by omega,by omega,by have:=HIK.out;omega,by have:=HKX.out;omega,HO.out.1,HO.out.2,by have h:=HT3.out.1;unfold putAt at h;rw [HSS.out] at h;simpa using h,HT3.out.2⟩
      case measure => simp [intOf];omega
  ·
   go_wp2_with fail
   go_end0
   have hkX:X.length ≤ k:=by have:=HAB.out;have:=HIK.out;omega
   rw [HQ.out]
   refine ⟨rfl,Z,?_,HZ.out.2.2.1,?_,HZ.out.2.2.2.2⟩
   ·
    have:=HZ.out.2.1
    rwa [List.take_of_length_le hkX] at this
   ·
    have:=HZ.out.2.2.2.1
    rwa [List.drop_eq_nil_of_le hkX,List.nil_append] at this
end Go.Proofs.YtphkmpnahnakaaaGreat
