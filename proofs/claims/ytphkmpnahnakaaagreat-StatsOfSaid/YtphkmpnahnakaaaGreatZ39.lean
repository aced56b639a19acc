/- darningref28.At: how many messages lie so deep (atC). At most 2^30 bytes. -/
import Derived.Test.YtphkmpnahnakaaaGreatZ23
import Derived.Test.YtphkmpnahnakaaaGreatZ38
namespace Go.Proofs.YtphkmpnahnakaaaGreat
open Go.RowKit Go.Shelf
theorem size_rvwA (w:World):(sizeOf 73).run Tryz.prog w = .ok 7 w:=by kernel_rfl
def AtOk (s:List Mes) (sv:Value) (W5:World) (i:Nat):Prop:=i ≤ 1048576 → ∀ (d m:Nat) (w:World) (bv:Value) (l:List UInt8),m < s.length → Below W5.heap.size W5 w → Bytes w bv l → l.length ≤ 1073741824 → (vmsg s d m l).2 = 0 →
 Calls Tryz.prog 13 #[sv,.int .i64 (m:Int),bv,.int .i64 (i:Int)] w fun e w' => e = .returned (.int .i64 (atC s i (m:Int) l:Nat)) ∧ Below w.heap.size w w'
theorem atC_views (s:List Mes) (i m:Nat) (l:List UInt8):atC s (i + 1) (m:Int) l = (((vall (s.getD m .zero).fields l).1.map fun x => atX (atC s i) (s.getD m .zero).fields (arOf l x))).sum:=by
 rw [atC,Int.toNat_natCast]
 unfold arecs
 rw [List.map_map]
 rfl
theorem sumT_le (l:List Nat) (k:Nat):(l.take k).sum ≤ l.sum:=by
 have h:l.sum = (l.take k).sum + (l.drop k).sum:=by rw [← List.sum_append,List.take_append_drop]
 omega
set_option maxRecDepth 100000 in
set_option maxHeartbeats 16000000 in
theorem ref28_At_step {W5:World} {sv:Value} {s:List Mes} (hs:sright s = true) (hS:SchemaAt W5 sv s) (i:Nat) (ih:AtOk s sv W5 i):AtOk s sv W5 (i + 1):=by
 intro hi d m w bv l hm hC hb hl hv
 have HIH:=hid (ih (by omega))
 have HSR:=hid hs
 obtain ⟨fs,HFS⟩:∃ fs,Hid (fs = (s.getD m .zero).fields):=⟨_,rfl⟩
 obtain ⟨-,sa,sc,rfl,hat⟩:=hS.open
 obtain ⟨sn,HSN⟩:∃ n,Hid (n = s.length):=⟨_,rfl⟩
 obtain ⟨sb,so,fv,hsa,-,c0,c1,hF⟩:=hat m hm
 subst hsa
 rw [← HFS.out] at hF
 have HMS:=hid hm
 rw [← HSN.out] at hS HIH hm ⊢
 obtain ⟨nm,HNM⟩:∃ nm,Hid (nm = (s.getD m .zero).name):=⟨_,rfl⟩
 rw [← HNM.out] at c0
 obtain ⟨hbl,va,vcap,rfl,-,-,-,-⟩:=hb.open
 obtain ⟨ln,HL⟩:∃ n,Hid (n = l.length):=⟨_,rfl⟩
 rw [← HL.out] at hb hl hbl ⊢
 obtain ⟨hfl,fa,fc,rfl,hfat⟩:=hF.open
 obtain ⟨fn,HFN⟩:∃ n,Hid (n = fs.length):=⟨_,rfl⟩
 rw [← HFN.out] at hF c1 hfat
 obtain ⟨all,HALL⟩:∃ all,Hid (all = (vall fs l).1):=⟨_,rfl⟩
 obtain ⟨zc,HZC⟩:∃ z,Hid (z = (vall fs l).2.1):=⟨_,rfl⟩
 have hok:=vall_ok hv
 rw [← HFS.out] at hok
 have hall:=hok.1
 have hvs:=hok.2
 rw [← HALL.out] at hvs
 have HVS:=hid hvs
 obtain ⟨g,HG⟩:∃ g:VW → Nat,Hid (g = fun x => atX (atC s i) fs (arOf l x)):=⟨_,rfl⟩
 obtain ⟨R,HR⟩:∃ R,Hid (R = (all.map g).sum):=⟨_,rfl⟩
 have HRE:Hid (atC s (i + 1) (m:Int) l = R):=by rw [Hid,atC_views,HR.out,HALL.out,HG.out,HFS.out]
 have hRL:R ≤ 1073741825:=by
  have:=atC_le s (i + 1) (m:Int) l
  rw [HRE.out] at this
  have:=HL.out
  omega
 rw [HRE.out]
 obtain ⟨Q,HQ⟩:∃ Q:Ending → World → Prop,Hid (Q = fun e w' => e = .returned (.int .i64 (R:Nat)) ∧ Below w.heap.size w w'):=⟨_,rfl⟩
 rw [← HQ.out]
 have hkr:=below_keeps hC
 replace c0:=hkr _ _ c0
 replace c1:=hkr _ _ c1
 have hF':=hF.keep hkr
 have HA:=hid (ref10_All hb (by rw [← HL.out];omega) hF' nm)
 obtain ⟨n,HN⟩:∃ n:Nat,Hid (n = i + 1):=⟨_,rfl⟩
 rw [← HN.out]
 have hn1:1 ≤ n:=by rw [HN.out];omega
 have hn2:n ≤ 1048576:=by rw [HN.out];omega
 have hnz:((n:Int) == 0) = false:=by simp;omega
 have hixs:=index_run Tryz.underlying23 size_mes rfl m hm (a:=some ⟨sb,so,none⟩) (cap:=sc)
 have hsl:=World.block_lt_of_cell? w _ c1
 have HC:=hid hC
 have HBY:=hid hb
 have HFT:=hid (And.intro hF hfat)
 have HC01:=hid (And.intro c0 c1)
 have HALL3:=hid hall
 have HVV:=hid hv
 clear ih hs hS hat hC hb hv hF hfat hok hall hvs hkr hF' hfl
 go_enter Tryz.func13,Tryz.ntmps13
 go_wp2_with fail
 refine HA.out.mono ?_
 rintro e w4 ⟨av,ab,rfl,hab,hrows,hb4⟩
 rw [← HALL.out] at hrows
 rw [← HZC.out,HALL3.out]
 obtain ⟨aa,ac,rfl⟩:=hrows.form
 obtain ⟨an,HAN⟩:∃ n,Hid (n = all.length):=⟨_,rfl⟩
 have hanl:an ≤ 1073741824:=by
  have h1:all.length ≤ l.length:=by rw [HALL.out];exact vall_len fs l
  have:=HAN.out
  have:=HL.out
  omega
 rw [← HAN.out] at hrows ⊢
 have HVIEW:Hid (∀ (k:Nat) (x:VW),all[k]? = some x → ∃ vb vo,aa = some ⟨vb,vo,none⟩ ∧ ∀ j u,x.cells[j]? = some u → w4.cell? ⟨vb,vo + k * 7 + j,none⟩ = some u):=fun k x hx => by
  obtain ⟨vb,vo,h1,-,-,h4⟩:=viewsB_at hrows (by rw [← HAN.out];omega) k x hx
  exact ⟨vb,vo,h1,h4⟩
 have HB4:=hid hb4
 clear hrows hab hb4 c0 c1 hixs hsl HA hnz
 go_wp2_with fail
 have HJ0:Hid (0 = ((all.take 0).map g).sum ∧ Below w4.heap.size w4 w4):=⟨rfl,Below.refl _ _⟩
 go_loopw [12,13] (fun v12 v13 wr => ∃ k acc:Nat,v13 = .int .i64 (k:Int) ∧ v12 = .int .i64 (acc:Int) ∧ k ≤ an ∧ Hid (acc = ((all.take k).map g).sum ∧ Below w4.heap.size w4 wr)) (fun _ v13 _ => an - (intOf v13).toNat)
 case atStart => exact ⟨0,0,rfl,rfl,by omega,HJ0.out⟩
 case round =>
  obtain ⟨k,acc,rfl,rfl,hk,HJ⟩:=hrel
  have hacc:acc ≤ 1073741825:=by
   have h:=sumT_le (all.map g) k
   rw [← List.map_take,← HJ.out.1,← HR.out] at h
   omega
  by_cases hlk:k < an
  ·
   obtain ⟨x,hx⟩:∃ x,all[k]? = some x:=⟨_,List.getElem?_eq_getElem (by rw [← HAN.out];exact hlk)⟩
   obtain ⟨vb,vo,haa,hvc⟩:=HVIEW.out k x hx
   subst haa
   have hvok:=HVS.out x (List.mem_of_getElem? hx)
   obtain ⟨hv1,hv2,hv3,hvk⟩:=hvok.facts
   have hkr:=below_keeps HJ.out.2
   have n3:=hkr _ _ (hvc 3 _ rfl)
   have n4:=hkr _ _ (hvc 4 _ rfl)
   have n5:=hkr _ _ (hvc 5 _ rfl)
   have HTK:Hid (((all.take (k + 1)).map g).sum = acc + g x):=by
    rw [Hid,List.take_add_one,hx,Option.toList_some,List.map_append,List.sum_append,HJ.out.1]
    simp
   have hgx:acc + g x ≤ 1073741825:=by
    have h:=sumT_le (all.map g) (k + 1)
    rw [← List.map_take,HTK.out,← HR.out] at h
    omega
   have HBR:=hid HJ.out.2
   have HVOK:=hid hvok
   obtain ⟨x0,HX0⟩:∃ x0,Hid (x0 = x):=⟨_,rfl⟩
   rw [← HX0.out] at HTK HVOK hgx
   obtain ⟨⟨x1,x2,x3,x4,x5⟩,xk,xrun⟩:=x
   simp only at n3 n4 n5 hv1 hv2 hv3 hvk
   change wr.cell? _ = some (.int .i64 (x4:Int)) at n3
   change wr.cell? _ = some (.int .i64 (x5:Int)) at n4
   change wr.cell? _ = some (.int .i64 xk) at n5
   have hvl:vb < wr.heap.size:=World.block_lt_of_cell? wr _ n3
   have hix:=index_run Tryz.underlying67 size_rvwA rfl k hlk (a:=some ⟨vb,vo,none⟩) (cap:=ac)
   have HXK:Hid (x0.k = xk ∧ vbytes l x0 = part l x4 x5):=by rw [HX0.out];exact ⟨rfl,rfl⟩
   have HVD:=hid (And.intro hv1 (And.intro hv2 hv3))
   rw [← HFS.out] at hvk
   have HVK:=hid hvk
   clear hvc hx hvok hkr HJ hv1 hv2 hv3 hvk
   by_cases hsub:isSub fs xk
   ·
    obtain ⟨hs0,hs17⟩:=hsub
    obtain ⟨q,rfl,hq⟩:∃ q:Nat,xk = q ∧ q < fs.length:=by
     rcases HVK.out with ⟨h,-⟩ | ⟨q,h1,h2,-⟩
     ·
      omega
     ·
      exact ⟨q,h1,h2⟩
    rw [Int.toNat_natCast] at hs17
    obtain ⟨f,HF⟩:∃ f,Hid (f = fs.getD q .zero):=⟨_,rfl⟩
    rw [← HF.out] at hs17
    have hqn:q < fn:=by rw [HFN.out];exact hq
    obtain ⟨fb,fo,hfb,-,-,-,g2,-,-,g5⟩:=HFT.out.2 q hqn
    subst hfb
    rw [← HF.out] at g2 g5
    have hofb:=(sright_field HSR.out m HMS.out f (by rw [HF.out,HFS.out];exact getD_memS _ _ _ (by rw [← HFS.out];exact hq))).2.1 hs17
    obtain ⟨o,ho⟩:∃ o:Nat,f.of = o:=⟨_,(Int.toNat_of_nonneg hofb.1).symm⟩
    rw [hs17] at g2
    rw [ho] at g5 hofb
    obtain ⟨d',-,hvm⟩:=HVOK.out.sub (k:=q) HXK.out.1 (by rw [← HFS.out,← HF.out];exact hs17)
    rw [← HFS.out,← HF.out,ho,Int.toNat_natCast,HXK.out.2] at hvm
    obtain ⟨A1,HA1⟩:∃ n,Hid (n = atC s i (o:Int) (part l x4 x5)):=⟨_,rfl⟩
    have HEX:Hid (g x0 = A1):=by
     rw [Hid,HG.out,HA1.out,← HXK.out.2]
     have e1:(arOf l x0).k = (q:Int):=HXK.out.1
     show atX (atC s i) fs (arOf l x0) = _
     unfold atX
     rw [e1,if_pos (show isSub fs (q:Int) from ⟨by omega,by rw [Int.toNat_natCast,← HF.out];exact hs17⟩),Int.toNat_natCast,← HF.out,ho]
     rfl
    rw [HEX.out] at hgx HTK
    have hkw:=below_keeps (HC.out.trans (HB4.out.mono HC.out.size |>.trans (HBR.out.mono (Nat.le_trans HC.out.size HB4.out.size))))
    have hkw2:=below_keeps (HB4.out.trans (HBR.out.mono HB4.out.size))
    have c1:=hkw2 _ _ HC01.out.2
    replace g2:=hkw _ _ g2
    replace g5:=hkw _ _ g5
    have hixs:=index_run Tryz.underlying23 size_mes rfl m hm (a:=some ⟨sb,so,none⟩) (cap:=sc)
    have hixf:=index_run Tryz.underlying49 size_fld rfl q hqn (a:=some ⟨fb,fo,none⟩) (cap:=fc)
    have hgl:=World.block_lt_of_cell? wr _ g2
    have hsl6:=World.block_lt_of_cell? wr _ c1
    have HOL:Hid (o < s.length):=by rw [Hid];have:=HSN.out;omega
    clear hkw hkw2 hofb hs0
    have e0:decide (0 ≤ (q:Int)) = true:=decide_eq_true (by omega)
    go_upto_region 8 with fail
    go_quiet (fail)
    clear e0
    obtain ⟨W14,HW14⟩:∃ W,Hid (W = wr.drewN nq):=⟨_,rfl⟩
    rw [← HW14.out]
    have hb14:Below wr.heap.size wr W14:=by rw [HW14.out];exact below_drewN (Below.refl _ _) _
    have hkw:=below_keeps hb14
    replace c1:=hkw _ _ c1
    replace g5:=hkw _ _ g5
    replace n3:=hkw _ _ n3
    replace n4:=hkw _ _ n4
    replace n5:=hkw _ _ n5
    have hvl:=Nat.lt_of_lt_of_le hvl hb14.size
    have hgl:=Nat.lt_of_lt_of_le hgl hb14.size
    have hsl6:=Nat.lt_of_lt_of_le hsl6 hb14.size
    have hcap:ln ≤ vcap:=by obtain ⟨_,_,a',c',e',h3,_⟩:=HBY.out;cases e';exact h3
    obtain ⟨hv1,hv2,hv3⟩:=HVD.out
    have hsl2:=slice_lh_run under_bytes size_u8 va ln vcap x4 x5 (by omega) (by have:=HL.out;omega)
    have hb14w:Below w.heap.size w W14.drew:=((HB4.out.trans (HBR.out.mono HB4.out.size)).trans (hb14.mono (Nat.le_trans HB4.out.size HBR.out.size))).drew
    have hxb2:=(Bytes.sub HBY.out HL.out x4 x5 (by omega) (by rw [HL.out];omega)).below hb14w
    obtain ⟨sv2,HSV2⟩:∃ sv,Hid (sliced va x4 x5 vcap 1 = sv):=⟨_,rfl⟩
    rw [HSV2.out] at hsl2 hxb2
    obtain ⟨ya,yn,yc,rfl⟩:∃ a n c,sv2 = .slice a n c:=⟨_,_,_,HSV2.out.symm⟩
    have hp2:(part l x4 x5).length ≤ 1073741824:=by have:=HL.out;rw [part_len l _ _ (by omega) (by omega)];omega
    have hrecc:=HIH.out d' o W14.drew _ (part l x4 x5) (by rw [HSN.out];exact HOL.out) (HC.out.trans (hb14w.mono HC.out.size)) hxb2 hp2 hvm
    rw [← HA1.out] at hrecc
    have hni:IntKind.i64.wrap ((n:Int) - 1) = (i:Int):=by rw [IntWalk.i64_in _ (by have:=HN.out;omega)];have:=HN.out;omega
    have HREC:=hid hrecc
    have HBW:=hid hb14w
    clear hrecc hb14 hkw hxb2 hp2 hvm hcap g2 hb14w
    go_upto_region 9 with fail
    have hwr:IntKind.i64.wrap ((acc:Int) + (A1:Int)) = (acc:Int) + (A1:Int):=IntWalk.i64_in _ (by omega)
    have q1:W14.drew.cell? ⟨sb,so + m * 2 + 1,none⟩ = some (.slice (some ⟨fb,fo,none⟩) fn fc) ∧ W14.drew.cell? ⟨vb,vo + k * 7 + 5,none⟩ = some (.int .i64 (q:Int)) ∧ W14.drew.cell? ⟨fb,fo + q * 6 + 5,none⟩ = some (.int .i64 (o:Int)) ∧ W14.drew.cell? ⟨vb,vo + k * 7 + 3,none⟩ = some (.int .i64 (x4:Int)) ∧ W14.drew.cell? ⟨vb,vo + k * 7 + 4,none⟩ = some (.int .i64 (x5:Int)):=⟨c1,n5,g5,n3,n4⟩
    refine wp_region_seq (fun _ => True) (fun w' => w'.cell? ⟨sb,so + m * 2 + 1,none⟩ = some (.slice (some ⟨fb,fo,none⟩) fn fc) ∧ w'.cell? ⟨vb,vo + k * 7 + 5,none⟩ = some (.int .i64 (q:Int)) ∧ w'.cell? ⟨fb,fo + q * 6 + 5,none⟩ = some (.int .i64 (o:Int)) ∧ w'.cell? ⟨vb,vo + k * 7 + 3,none⟩ = some (.int .i64 (x4:Int)) ∧ w'.cell? ⟨vb,vo + k * 7 + 4,none⟩ = some (.int .i64 (x5:Int))) 31 [0,0,0,0,0,0,1,0,0,0,0,1,0,0,1,0,0,0,0,0,0,1,0,0,0,0,0,1,0,0,0,2,0,0] (by kernel_rfl) rfl (by kernel_rfl) (fun _ _ dst _ _ h => by cases dst <;> exact h) trivial q1 (fun OPS _ => ?_)
    clear q1 c1 n5 g5 n3 n4
    refine seqG0 (v:=?v0) ?hy0 ?hr0
    case hy0 => (intro w hw;go_simp;all_goals rfl)
    simp only [Act.put,List.setIfInBounds_toArray,List.set_cons_zero,List.set_cons_succ]
    refine seqG0 (v:=?v1) ?hy1 ?hr1
    case hy1 => (intro w hw;go_simp;all_goals rfl)
    simp only [Act.put,List.setIfInBounds_toArray,List.set_cons_zero,List.set_cons_succ]
    refine seqG0 (v:=?v2) ?hy2 ?hr2
    case hy2 => (intro w hw;go_simp;all_goals rfl)
    simp only [Act.put,List.setIfInBounds_toArray,List.set_cons_zero,List.set_cons_succ]
    refine seqG0 (v:=?v3) ?hy3 ?hr3
    case hy3 => (intro w hw;go_simp;all_goals rfl)
    simp only [Act.put,List.setIfInBounds_toArray,List.set_cons_zero,List.set_cons_succ]
    refine seqG0 (v:=?v4) ?hy4 ?hr4
    case hy4 => (intro w hw;go_simp;all_goals rfl)
    simp only [Act.put,List.setIfInBounds_toArray,List.set_cons_zero,List.set_cons_succ]
    refine seqG0 (v:=?v5) ?hy5 ?hr5
    case hy5 => (intro w hw;go_simp;all_goals rfl)
    simp only [Act.put,List.setIfInBounds_toArray,List.set_cons_zero,List.set_cons_succ]
    refine seqG1 (v:=?v6) ?hy6 ?hr6
    case hy6 => (intro w hw;go_simp;all_goals rfl)
    simp only [Act.put,List.setIfInBounds_toArray,List.set_cons_zero,List.set_cons_succ]
    refine seqG0 (v:=?v7) ?hy7 ?hr7
    case hy7 => (intro w hw;go_simp;all_goals rfl)
    simp only [Act.put,List.setIfInBounds_toArray,List.set_cons_zero,List.set_cons_succ]
    refine seqG0 (v:=?v8) ?hy8 ?hr8
    case hy8 => (intro w hw;go_simp;all_goals rfl)
    simp only [Act.put,List.setIfInBounds_toArray,List.set_cons_zero,List.set_cons_succ]
    refine seqG0 (v:=?v9) ?hy9 ?hr9
    case hy9 => (intro w hw;go_simp;all_goals rfl)
    simp only [Act.put,List.setIfInBounds_toArray,List.set_cons_zero,List.set_cons_succ]
    refine seqG0 (v:=?v10) ?hy10 ?hr10
    case hy10 => (intro w hw;go_simp;all_goals rfl)
    simp only [Act.put,List.setIfInBounds_toArray,List.set_cons_zero,List.set_cons_succ]
    refine seqG1 (v:=?v11) ?hy11 ?hr11
    case hy11 => (intro w hw;go_simp;all_goals rfl)
    simp only [Act.put,List.setIfInBounds_toArray,List.set_cons_zero,List.set_cons_succ]
    refine seqG0 (v:=?v12) ?hy12 ?hr12
    case hy12 => (intro w hw;go_simp;all_goals rfl)
    simp only [Act.put,List.setIfInBounds_toArray,List.set_cons_zero,List.set_cons_succ]
    refine seqG0 (v:=?v13) ?hy13 ?hr13
    case hy13 => (intro w hw;go_simp;all_goals rfl)
    simp only [Act.put,List.setIfInBounds_toArray,List.set_cons_zero,List.set_cons_succ]
    refine seqG1 (v:=?v14) ?hy14 ?hr14
    case hy14 => (intro w hw;go_simp;all_goals rfl)
    simp only [Act.put,List.setIfInBounds_toArray,List.set_cons_zero,List.set_cons_succ]
    refine seqG0 (v:=?v15) ?hy15 ?hr15
    case hy15 => (intro w hw;go_simp;all_goals rfl)
    simp only [Act.put,List.setIfInBounds_toArray,List.set_cons_zero,List.set_cons_succ]
    refine seqG0 (v:=?v16) ?hy16 ?hr16
    case hy16 => (intro w hw;go_simp;all_goals rfl)
    simp only [Act.put,List.setIfInBounds_toArray,List.set_cons_zero,List.set_cons_succ]
    refine seqG0 (v:=?v17) ?hy17 ?hr17
    case hy17 => (intro w hw;go_simp;all_goals rfl)
    simp only [Act.put,List.setIfInBounds_toArray,List.set_cons_zero,List.set_cons_succ]
    refine seqG0 (v:=?v18) ?hy18 ?hr18
    case hy18 => (intro w hw;go_simp;all_goals rfl)
    simp only [Act.put,List.setIfInBounds_toArray,List.set_cons_zero,List.set_cons_succ]
    refine seqG0 (v:=?v19) ?hy19 ?hr19
    case hy19 => (intro w hw;go_simp;all_goals rfl)
    simp only [Act.put,List.setIfInBounds_toArray,List.set_cons_zero,List.set_cons_succ]
    refine seqG0 (v:=?v20) ?hy20 ?hr20
    case hy20 => (intro w hw;go_simp;all_goals rfl)
    simp only [Act.put,List.setIfInBounds_toArray,List.set_cons_zero,List.set_cons_succ]
    refine seqG1 (v:=?v21) ?hy21 ?hr21
    case hy21 => (intro w hw;go_simp;all_goals rfl)
    simp only [Act.put,List.setIfInBounds_toArray,List.set_cons_zero,List.set_cons_succ]
    refine seqG0 (v:=?v22) ?hy22 ?hr22
    case hy22 => (intro w hw;go_simp;all_goals rfl)
    simp only [Act.put,List.setIfInBounds_toArray,List.set_cons_zero,List.set_cons_succ]
    refine seqG0 (v:=?v23) ?hy23 ?hr23
    case hy23 => (intro w hw;go_simp;all_goals rfl)
    simp only [Act.put,List.setIfInBounds_toArray,List.set_cons_zero,List.set_cons_succ]
    refine seqG0 (v:=?v24) ?hy24 ?hr24
    case hy24 => (intro w hw;go_simp;all_goals rfl)
    simp only [Act.put,List.setIfInBounds_toArray,List.set_cons_zero,List.set_cons_succ]
    refine seqG0 (v:=?v25) ?hy25 ?hr25
    case hy25 => (intro w hw;go_simp;all_goals rfl)
    simp only [Act.put,List.setIfInBounds_toArray,List.set_cons_zero,List.set_cons_succ]
    refine seqG0 (v:=?v26) ?hy26 ?hr26
    case hy26 => (intro w hw;go_simp;all_goals rfl)
    simp only [Act.put,List.setIfInBounds_toArray,List.set_cons_zero,List.set_cons_succ]
    refine seqG1 (v:=?v27) ?hy27 ?hr27
    case hy27 => (intro w hw;go_simp;all_goals rfl)
    simp only [Act.put,List.setIfInBounds_toArray,List.set_cons_zero,List.set_cons_succ]
    refine seqG0 (v:=?v28) ?hy28 ?hr28
    case hy28 => (intro w hw;go_simp;all_goals rfl)
    simp only [Act.put,List.setIfInBounds_toArray,List.set_cons_zero,List.set_cons_succ]
    refine seqG0 (v:=?v29) ?hy29 ?hr29
    case hy29 => (intro w hw;go_simp;all_goals rfl)
    simp only [Act.put,List.setIfInBounds_toArray,List.set_cons_zero,List.set_cons_succ]
    refine seqG0 (v:=?v30) ?hy30 ?hr30
    case hy30 => (intro w hw;go_simp;all_goals rfl)
    simp only [Act.put,List.setIfInBounds_toArray,List.set_cons_zero,List.set_cons_succ]
    refine seqG2 (fun K12 HK12 => ?_)
    go_wp2_with fail
    refine HREC.out.mono ?_
    rintro e2 w15 ⟨rfl,hb15⟩
    have HEND15:Hid (Below w4.heap.size w4 w15):=by
     have h1:Below w4.heap.size w4 W14.drew:=(HBR.out.trans ((show Below wr.heap.size wr W14 by rw [HW14.out];exact below_drewN (Below.refl _ _) _).mono HBR.out.size)).drew
     exact h1.trans (hb15.mono h1.size)
    clear hb15 HREC
    go_wp2_with fail
    refine HK12.out _ _ trivial ?_
    clear HK12 K12
    intro _
    refine seqG0 (v:=?v32) ?hy32 ?hr32
    case hy32 => (intro w hw;go_simp;all_goals rfl)
    simp only [Act.put,List.setIfInBounds_toArray,List.set_cons_zero,List.set_cons_succ]
    refine seqG0 (v:=?v33) ?hy33 ?hr33
    case hy33 => (intro w hw;go_simp;all_goals rfl)
    simp only [Act.put,List.setIfInBounds_toArray,List.set_cons_zero,List.set_cons_succ]
    refine seqG_end ?_
    clear hvl hgl hsl6 hixs hixf hsl2 hix hni hwr
    go_wp2_with fail
    go_roundw
    case rel => exact ⟨k + 1,acc + A1,by go_num,by go_num,hlk,hid ⟨HTK.out.symm,HEND15.out⟩⟩
    case measure => simp [intOf];omega
   ·
    have HEX:Hid (g x0 = 0):=by
     rw [Hid,HG.out]
     have e1:(arOf l x0).k = xk:=HXK.out.1
     show atX (atC s i) fs (arOf l x0) = _
     unfold atX
     rw [e1,if_neg hsub]
    rw [HEX.out,Nat.add_zero] at HTK
    have HEND:Hid (∀ j:Nat,Below w4.heap.size w4 (wr.drewN j)):=fun j => below_drewN HBR.out j
    by_cases hneg:xk < 0
    ·
     have e0:decide (0 ≤ xk) = false:=decide_eq_false (by omega)
     go_upto_region 8 with fail
     go_quiet (fail)
     have HEW:=hid (HEND.out nq)
     clear n3 n4 n5 hvl hix e0
     go_wp2_with fail
     go_roundw
     case rel => exact ⟨k + 1,acc,by go_num,rfl,hlk,hid ⟨HTK.out.symm,HEW.out⟩⟩
     case measure => simp [intOf];omega
    ·
     obtain ⟨q,rfl,hq⟩:∃ q:Nat,xk = q ∧ q < fs.length:=by
      rcases HVK.out with ⟨h,-⟩ | ⟨q,h1,h2,-⟩
      ·
       omega
      ·
       exact ⟨q,h1,h2⟩
     unfold isSub at hsub
     rw [Int.toNat_natCast] at hsub
     obtain ⟨f,HF⟩:∃ f,Hid (f = fs.getD q .zero):=⟨_,rfl⟩
     rw [← HF.out] at hsub
     have hqn:q < fn:=by rw [HFN.out];exact hq
     obtain ⟨fb,fo,hfb,-,-,-,g2,-⟩:=HFT.out.2 q hqn
     subst hfb
     rw [← HF.out] at g2
     have e1:((f.kind:Int) == 17) = false:=by
      have:¬ f.kind = 17:=fun h => hsub ⟨by omega,h⟩
      simpa using this
     have hkw:=below_keeps (HC.out.trans (HB4.out.mono HC.out.size |>.trans (HBR.out.mono (Nat.le_trans HC.out.size HB4.out.size))))
     have hkw2:=below_keeps (HB4.out.trans (HBR.out.mono HB4.out.size))
     have c1:=hkw2 _ _ HC01.out.2
     replace g2:=hkw _ _ g2
     have hixs:=index_run Tryz.underlying23 size_mes rfl m hm (a:=some ⟨sb,so,none⟩) (cap:=sc)
     have hixf:=index_run Tryz.underlying49 size_fld rfl q hqn (a:=some ⟨fb,fo,none⟩) (cap:=fc)
     have hgl:=World.block_lt_of_cell? wr _ g2
     have hsl6:=World.block_lt_of_cell? wr _ c1
     have e0:decide (0 ≤ (q:Int)) = true:=decide_eq_true (by omega)
     clear hkw hkw2 hsub
     go_upto_region 8 with fail
     go_quiet (fail)
     have HEW:=hid (HEND.out nq)
     clear n3 n4 n5 hvl hix e0 e1 c1 g2 hixs hixf hgl hsl6
     go_wp2_with fail
     go_roundw
     case rel => exact ⟨k + 1,acc,by go_num,rfl,hlk,hid ⟨HTK.out.symm,HEW.out⟩⟩
     case measure => simp [intOf];omega
  ·
   obtain rfl:k = an:=by omega
   have HE1:Hid (Q (.returned (.int .i64 (acc:Int))) wr):=by
    have h:=HJ.out.1
    rw [List.take_of_length_le (by rw [← HAN.out];exact Nat.le_refl _),← HR.out] at h
    rw [HQ.out,h]
    exact ⟨rfl,HB4.out.trans (HJ.out.2.mono HB4.out.size)⟩
   go_wp2_with fail
   exact HE1.out
theorem ref28_At {W5:World} {sv:Value} {s:List Mes} (hs:sright s = true) (hS:SchemaAt W5 sv s):∀ i,AtOk s sv W5 i
 | 0 => by
  intro _ d m w bv l hm hC hb hl hv
  obtain ⟨-,sa,sc,rfl,-⟩:=hS.open
  obtain ⟨-,va,vcap,rfl,-⟩:=hb.open
  generalize s.length = sn
  generalize l.length = ln
  clear hm hC hb hl hv hs hS
  show Calls _ _ #[_,_,_,.int .i64 0] w fun e w' => e = .returned (.int .i64 1) ∧ Below w.heap.size w w'
  go_enter Tryz.func13,Tryz.ntmps13
  go_wp2_with fail
  go_ret
  exact ⟨rfl,Below.refl _ _⟩
 | i + 1 => ref28_At_step hs hS i (ref28_At hs hS i)
end Go.Proofs.YtphkmpnahnakaaaGreat
