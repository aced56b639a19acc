/- darningref28.Rows: the rows of valid bytes, put in their places (addAll). At most 2^20 bytes. darningref11.Depth: the least depth at which valid bytes are valid (depL). At most 2^40 bytes. darningref09.Ends: where a run's values end (endsF), or its code. Bytes of at most 2 to the 40. -/
import Derived.Test.YtphkmpnahnakaaaGreatZ14
import Derived.Test.YtphkmpnahnakaaaGreatZ20
import Derived.Test.YtphkmpnahnakaaaGreatZ24
import Derived.Test.YtphkmpnahnakaaaGreatZ38
import Derived.Test.YtphkmpnahnakaaaGreatZ39
import Derived.Laws.AppendOwn
import Derived.OwnWalk
import Derived.Maps.AppendAt
namespace Go.Proofs.YtphkmpnahnakaaaGreat
open Go.RowKit Go.Shelf
def RRowsOk (s:List Mes) (sv:Value) (W5:World) (d:Nat):Prop:=∀ (m:Nat) (w:World) (bv:Value) (l:List UInt8) (path:ByteArray) (la:Option Addr) (ln lc:Nat) (L:List SR) (B:Nat),
 m < s.length → Below W5.heap.size W5 w → Bytes w bv l → l.length ≤ 1048576 → (vmsg s d m l).2 = 0 → SegR w (.slice la ln lc) L → ln = L.length → BoundR B L → path.size + 61 * (d + 1) ≤ 1048576 →
 ln + (evsub s (d + 1) (m:Int) l path).length ≤ 1073741824 → B + (evsub s (d + 1) (m:Int) l path).length * 1048576 ≤ 1152921504606846976 →
 Calls Tryz.prog 10 #[.slice la ln lc,sv,.int .i64 (m:Int),bv,.string path] w fun e w' => ∃ a c,e = .returned (.slice a (addAll L (evsub s (d + 1) (m:Int) l path)).length c) ∧
  SegR w' (.slice a (addAll L (evsub s (d + 1) (m:Int) l path)).length c) (addAll L (evsub s (d + 1) (m:Int) l path)) ∧ Below w.heap.size w w'
theorem BoundR.weaken {B C:Nat} {l:List SR} (h:BoundR B l) (hb:B ≤ C):BoundR C l:=fun r hr => by
 have:=h r hr
 omega
theorem flatE_take_len {α β:Type} (E:α → List β) (l:List α) (k:Nat):((l.take k).flatMap E).length ≤ (l.flatMap E).length:=by
 have h:l.flatMap E = (l.take k).flatMap E ++ (l.drop k).flatMap E:=by rw [← List.flatMap_append,List.take_append_drop]
 rw [h,List.length_append]
 omega
set_option maxRecDepth 100000 in
set_option maxHeartbeats 16000000 in
theorem ref28_Rows_step {W5:World} {sv:Value} {s:List Mes} (hs:sright s = true) (hS:SchemaAt W5 sv s) (d:Nat) (hrec:∀ d',d = d' + 1 → RRowsOk s sv W5 d'):RRowsOk s sv W5 d:=by
 intro m w bv l path la ln lc L B hm hC hb hl hv hL hln hB hps hen hBB
 have HRE:=hid hrec
 have HSR:=hid hs
 obtain ⟨fs,HFS⟩:∃ fs,Hid (fs = (s.getD m .zero).fields):=⟨_,rfl⟩
 obtain ⟨-,sa,sc,rfl,hat⟩:=hS.open
 obtain ⟨sn,HSN⟩:∃ n,Hid (n = s.length):=⟨_,rfl⟩
 obtain ⟨sb,so,fv,hsa,-,c0,c1,hF⟩:=hat m hm
 subst hsa
 rw [← HFS.out] at hF
 have HMS:=hid hm
 rw [← HSN.out] at hS HRE hm ⊢
 obtain ⟨nm,HNM⟩:∃ nm,Hid (nm = (s.getD m .zero).name):=⟨_,rfl⟩
 rw [← HNM.out] at c0
 obtain ⟨hbl,va,vcap,rfl,-,-,-,-⟩:=hb.open
 obtain ⟨bn,HBN⟩:∃ n,Hid (n = l.length):=⟨_,rfl⟩
 rw [← HBN.out] at hb hl hbl ⊢
 obtain ⟨hfl,fa,fc,rfl,hfat⟩:=hF.open
 obtain ⟨fn,HFN⟩:∃ n,Hid (n = fs.length):=⟨_,rfl⟩
 rw [← HFN.out] at hF c1 hfat
 obtain ⟨all,HALL⟩:∃ all,Hid (all = (vall fs l).1):=⟨_,rfl⟩
 obtain ⟨zc,HZC⟩:∃ z,Hid (z = (vall fs l).2.1):=⟨_,rfl⟩
 have hok:=vall_ok hv
 rw [← HFS.out] at hok
 have hall:=hok.1
 have hvs:=hok.2
 rw [← HALL.out] at hvs
 have HVS:=hid hvs
 obtain ⟨E,HE⟩:∃ E:VW → List SE,Hid (E = evV s d fs l path):=⟨_,rfl⟩
 have HEV:Hid (evsub s (d + 1) (m:Int) l path = all.flatMap E):=by rw [Hid,evsub_views,HALL.out,HE.out,HFS.out]
 have HEL:Hid (∀ e ∈ all.flatMap E,e.bytes ≤ 1048576 ∧ e.vals ≤ 1048576):=by
  rw [Hid,← HEV.out]
  intro e he
  have:=(evsub_len s (d + 1) (m:Int) l path).2 e he
  have:=HBN.out
  omega
 rw [HEV.out] at hen hBB ⊢
 obtain ⟨Q,HQ⟩:∃ Q:Ending → World → Prop,Hid (Q = fun e w' => ∃ a c,e = .returned (.slice a (addAll L (all.flatMap E)).length c) ∧ SegR w' (.slice a (addAll L (all.flatMap E)).length c) (addAll L (all.flatMap E)) ∧ Below w.heap.size w w'):=⟨_,rfl⟩
 rw [← HQ.out]
 have hkr:=below_keeps hC
 replace c0:=hkr _ _ c0
 replace c1:=hkr _ _ c1
 have hF':=hF.keep hkr
 have HA:=hid (ref10_All hb (by rw [← HBN.out];omega) hF' nm)
 have hixs:=index_run Tryz.underlying23 size_mes rfl m hm (a:=some ⟨sb,so,none⟩) (cap:=sc)
 have hsl:=World.block_lt_of_cell? w _ c1
 have HC:=hid hC
 have HBY:=hid hb
 have HFT:=hid (And.intro hF hfat)
 have HC01:=hid (And.intro c0 c1)
 have HALL3:=hid hall
 have HLI:=hid (And.intro hL (And.intro hln hB))
 have HNUM:=hid (And.intro hps (And.intro hen hBB))
 clear hrec hs hS hat hC hb hv hF hfat hok hall hvs hkr hF' hfl hL hln hB hps hen hBB
 go_enter Tryz.func10,Tryz.ntmps10
 go_wp2_with fail
 refine HA.out.mono ?_
 rintro e w4 ⟨av,ab,rfl,hab,hrows,hb4⟩
 rw [← HALL.out] at hrows
 rw [← HZC.out,HALL3.out]
 obtain ⟨aa,ac,rfl⟩:=hrows.form
 obtain ⟨an,HAN⟩:∃ n,Hid (n = all.length):=⟨_,rfl⟩
 have hanl:an ≤ 1073741824:=by
  have h1:all.length ≤ l.length:=by rw [HALL.out];exact vall_len fs l
  have:=HAN.out
  have:=HBN.out
  omega
 rw [← HAN.out] at hrows ⊢
 have HVIEW:Hid (∀ (k:Nat) (x:VW),all[k]? = some x → ∃ vb vo,aa = some ⟨vb,vo,none⟩ ∧ ∀ j u,x.cells[j]? = some u → w4.cell? ⟨vb,vo + k * 7 + j,none⟩ = some u):=fun k x hx => by
  obtain ⟨vb,vo,h1,-,-,h4⟩:=viewsB_at hrows (by rw [← HAN.out];omega) k x hx
  exact ⟨vb,vo,h1,h4⟩
 have HB4:=hid hb4
 have HJ0:Hid (SegR w4 (.slice la ln lc) (addAll L ((all.take 0).flatMap E)) ∧ ln = (addAll L ((all.take 0).flatMap E)).length ∧ Below w4.heap.size w4 w4):=⟨HLI.out.1.below hb4,HLI.out.2.1,Below.refl _ _⟩
 clear hrows hab hb4 c0 c1 hixs hsl HA
 go_wp2_with fail
 go_loopw [0,14] (fun v0 v14 wr => ∃ (k:Nat) (oa:Option Addr) (on oc:Nat),v0 = .slice oa on oc ∧ v14 = .int .i64 (k:Int) ∧ k ≤ an ∧ Hid (SegR wr (.slice oa on oc) (addAll L ((all.take k).flatMap E)) ∧ on = (addAll L ((all.take k).flatMap E)).length ∧ Below w4.heap.size w4 wr)) (fun _ v14 _ => an - (intOf v14).toNat)
 case atStart => exact ⟨0,la,ln,lc,rfl,rfl,by omega,HJ0.out⟩
 case round =>
  obtain ⟨k,oa,on,oc,rfl,rfl,hk,HJ⟩:=hrel
  by_cases hlk:k < an
  ·
   obtain ⟨x,hx⟩:∃ x,all[k]? = some x:=⟨_,List.getElem?_eq_getElem (by rw [← HAN.out];exact hlk)⟩
   obtain ⟨vb,vo,haa,hvc⟩:=HVIEW.out k x hx
   subst haa
   have hvok:=HVS.out x (List.mem_of_getElem? hx)
   obtain ⟨hv1,hv2,hv3,hvk⟩:=hvok.facts
   have hkr:=below_keeps HJ.out.2.2
   have n0:=hkr _ _ (hvc 0 _ rfl)
   have n1:=hkr _ _ (hvc 1 _ rfl)
   have n2:=hkr _ _ (hvc 2 _ rfl)
   have n3:=hkr _ _ (hvc 3 _ rfl)
   have n4:=hkr _ _ (hvc 4 _ rfl)
   have n5:=hkr _ _ (hvc 5 _ rfl)
   rw [Nat.add_zero] at n0
   obtain ⟨LK,HLK⟩:∃ LK,Hid (LK = addAll L ((all.take k).flatMap E)):=⟨_,rfl⟩
   have HTK:Hid (addAll L ((all.take (k + 1)).flatMap E) = addAll LK (E x)):=by
    rw [Hid,List.take_add_one,hx,Option.toList_some,List.flatMap_append,addAll_app,HLK.out]
    simp
   -- bounds
   obtain ⟨hps,hen,hBB⟩:=HNUM.out
   have hlen1:((all.take k).flatMap E).length + (E x).length ≤ (all.flatMap E).length:=by
    have h:=flatE_take_len E all (k + 1)
    rw [List.take_add_one,hx,Option.toList_some,List.flatMap_append,List.length_append] at h
    simpa using h
   obtain ⟨NK,HNK⟩:∃ n,Hid (n = ((all.take k).flatMap E).length):=⟨_,rfl⟩
   obtain ⟨NX,HNX⟩:∃ n,Hid (n = (E x).length):=⟨_,rfl⟩
   rw [← HNK.out,← HNX.out] at hlen1
   have hbk:BoundR (B + NK * 1048576) LK:=by
    rw [HLK.out,HNK.out]
    exact addAll_bound (by decide) _ (fun e he => HEL.out e (by
     obtain ⟨y,hy,he⟩:=List.mem_flatMap.1 he
     exact List.mem_flatMap.2 ⟨y,List.mem_of_mem_take hy,he⟩)) B L HLI.out.2.2
   have honb:LK.length ≤ ln + NK:=by
    have h:=addAll_len ((all.take k).flatMap E) L
    rw [← HLK.out,← HNK.out,← HLI.out.2.1] at h
    exact h
   have hmul:(NK + NX) * 1048576 ≤ (all.flatMap E).length * 1048576:=Nat.mul_le_mul_right _ hlen1
   rw [Nat.add_mul] at hmul
   have HNB:Hid (LK.length + NX ≤ 1073741824 ∧ B + NK * 1048576 + NX * 1048576 ≤ 1152921504606846976):=⟨by omega,by omega⟩
   have HBK:=hid hbk
   rw [← HLK.out] at HJ
   have HVOK:=hid hvok
   obtain ⟨x0,HX0⟩:∃ x0,Hid (x0 = x):=⟨_,rfl⟩
   rw [← HX0.out] at HTK HVOK HNX
   obtain ⟨⟨x1,x2,x3,x4,x5⟩,xk,xrun⟩:=x
   simp only at n0 n1 n2 n3 n4 n5 hv1 hv2 hv3 hvk
   change wr.cell? _ = some (.int .i64 (x1:Int)) at n0
   change wr.cell? _ = some (.int .i64 (x2:Int)) at n1
   change wr.cell? _ = some (.int .i64 (x3:Int)) at n2
   change wr.cell? _ = some (.int .i64 (x4:Int)) at n3
   change wr.cell? _ = some (.int .i64 (x5:Int)) at n4
   change wr.cell? _ = some (.int .i64 xk) at n5
   have hvl:vb < wr.heap.size:=World.block_lt_of_cell? wr _ n0
   have hix:=index_run Tryz.underlying67 size_rvwA rfl k hlk (a:=some ⟨vb,vo,none⟩) (cap:=ac)
   obtain ⟨W6,HW6⟩:∃ W6,Hid (W6 = wr.alloc (.cells #[.int .i64 (x1:Int),.int .i64 (x2:Int),.int .i64 (x3:Int),.int .i64 (x4:Int),.int .i64 (x5:Int)] 71)):=⟨_,rfl⟩
   obtain ⟨VB,HVB⟩:∃ VB,Hid (VB = wr.heap.size):=⟨_,rfl⟩
   have hb6:Below wr.heap.size wr W6:=by rw [HW6.out];exact (Below.refl _ _).alloc (Nat.le_refl _) _
   have hv6:Blk W6 VB [.int .i64 (x1:Int),.int .i64 (x2:Int),.int .i64 (x3:Int),.int .i64 (x4:Int),.int .i64 (x5:Int)] 71:=by rw [HW6.out,HVB.out];exact Blk.new wr [.int .i64 (x1:Int),.int .i64 (x2:Int),.int .i64 (x3:Int),.int .i64 (x4:Int),.int .i64 (x5:Int)] _
   have HV6:=hid hv6
   have HXK:Hid (x0.k = xk ∧ (part l x0.r.start x0.r.to) = part l x3 x5 ∧ part l x0.r.at' x0.r.to = part l x4 x5 ∧ vbytes l x0 = part l x4 x5):=by rw [HX0.out];exact ⟨rfl,rfl,rfl,rfl⟩
   have HVD:=hid (And.intro hv1 (And.intro hv2 hv3))
   rw [← HFS.out] at hvk
   have HVK:=hid hvk
   obtain ⟨NM,HNMX⟩:∃ NM,Hid (NM = nameOf fs xk):=⟨_,rfl⟩
   have HNS:Hid (1 ≤ NM.size ∧ NM.size ≤ 60):=by
    rw [Hid,HNMX.out,← HXK.out.1,HFS.out]
    exact nameOf_size HSR.out HMS.out HVOK.out
   obtain ⟨HERE,HHERE⟩:∃ p,Hid (p = underS path NM):=⟨_,rfl⟩
   -- worlds behind W6: what is known there
   have HKW:Hid (∀ W,Below W6.heap.size W6 W → Below w4.heap.size w4 W ∧ (W.cell? ⟨vb,vo + k * 7 + 5,none⟩ = some (.int .i64 xk) ∧ W.cell? ⟨VB,2,none⟩ = some (.int .i64 (x3:Int)) ∧ W.cell? ⟨VB,3,none⟩ = some (.int .i64 (x4:Int)) ∧ W.cell? ⟨VB,4,none⟩ = some (.int .i64 (x5:Int)) ∧ W.cell? ⟨sb,so + m * 2 + 1,none⟩ = some (.slice fa fn fc)) ∧ vb < W.heap.size ∧ VB < W.heap.size ∧ sb < W.heap.size ∧ SegR W (.slice oa on oc) LK):=fun W hW => by
    have h1:Below wr.heap.size wr W:=hb6.trans (hW.mono hb6.size)
    have h2:Below w4.heap.size w4 W:=HJ.out.2.2.trans (h1.mono HJ.out.2.2.size)
    have h3:Below w.heap.size w W:=HB4.out.trans (h2.mono HB4.out.size)
    have hV:=HV6.out.below hW
    have y2:=hV.cell 2 _ rfl
    have y3:=hV.cell 3 _ rfl
    have y4:=hV.cell 4 _ rfl
    have yc:=below_keeps h3 _ _ HC01.out.2
    have yn:=below_keeps h1 _ _ n5
    exact ⟨h2,⟨yn,y2,y3,y4,yc⟩,World.block_lt_of_cell? W _ yn,hV.lt,World.block_lt_of_cell? W _ yc,HJ.out.1.below h1⟩
   have HON:Hid (on = LK.length):=HJ.out.2.1
   clear hvc hx hvok hkr hb6 hv6 HJ hv1 hv2 hv3 hvk hbk honb hmul hlen1 hps hen hBB
   go_upto_region 7 with fail
   rw [← HW6.out,← HVB.out]
   clear n0 n1 n2 n3 n4 n5 hvl
   obtain ⟨-,⟨d5,-,-,-,c1⟩,dl,-,sl,-⟩:=HKW.out W6 (Below.refl _ _)
   obtain ⟨e0,HE0⟩:∃ e:SE,Hid (e = ⟨HERE,(part l x3 x5).length,(part l x4 x5).length⟩):=⟨_,rfl⟩
   have hv4:x5 ≤ 1048576:=by have:=HVD.out.2.2;have:=HBN.out;omega
   have hvv:x3 ≤ x4 ∧ x4 ≤ x5:=⟨HVD.out.1,HVD.out.2.1⟩
   obtain ⟨hv1,hv2⟩:=hvv
   have hnx:1 ≤ NX:=by
    rw [HNX.out,HE.out]
    unfold evV evA
    rw [List.length_cons]
    omega
   have HB1K:Hid (BoundR (B + NK * 1048576 + 1048576) (addR LK (oneR e0))):=by
    refine addR_bound (x:=oneR e0) ?_ HBK.out
    rw [HE0.out]
    have h1:(part l x3 x5).length = x5 - x3:=part_len l _ _ (by omega) (by have:=HBN.out;have:=HVD.out.2.2;omega)
    have h2:(part l x4 x5).length = x5 - x4:=part_len l _ _ (by omega) (by have:=HBN.out;have:=HVD.out.2.2;omega)
    show (1:Nat) ≤ _ ∧ (part l x3 x5).length ≤ _ ∧ (part l x4 x5).length ≤ _
    omega
   have HADD:Hid (∀ W,Below W6.heap.size W6 W → Calls Tryz.prog 21 #[.slice oa on oc,.agg #[.string HERE,.int .i64 1,.int .i64 ((x5:Int) - (x3:Int)),.int .i64 ((x5:Int) - (x4:Int))]] W fun e w' => ∃ a n2 c,e = .returned (.slice a n2 c) ∧ n2 = (addR LK (oneR e0)).length ∧ SegR w' (.slice a n2 c) (addR LK (oneR e0)) ∧ Below W.heap.size W w'):=fun W hW => by
    have hlen:=HNB.out
    have h:=ref28_Add (HKW.out W hW).2.2.2.2.2 HON.out (by have:=HON.out;omega) HERE 1 (x5 - x3) (x5 - x4) ⟨by omega,by omega,by omega⟩ (HBK.out.weaken (by omega))
    have h1:(part l x3 x5).length = x5 - x3:=part_len l _ _ (by omega) (by have:=HBN.out;have:=HVD.out.2.2;omega)
    have h2:(part l x4 x5).length = x5 - x4:=part_len l _ _ (by omega) (by have:=HBN.out;have:=HVD.out.2.2;omega)
    have e1:(⟨HERE,1,x5 - x3,x5 - x4⟩:SR) = oneR e0:=by rw [HE0.out,h1,h2];rfl
    rw [e1,show ((x5 - x3:Nat):Int) = (x5:Int) - (x3:Int) by omega,show ((x5 - x4:Nat):Int) = (x5:Int) - (x4:Int) by omega,show ((1:Nat):Int) = 1 from rfl] at h
    refine h.mono ?_
    rintro e w' ⟨v,rfl,⟨a,c,rfl⟩,hv,hb⟩
    exact ⟨a,_,c,rfl,rfl,hv,hb⟩
   go_upto_if 43 with fail
   go_cut [16] from 44 to 56 (fun s16 wx => s16 = .string NM ∧ Hid (Below W6.heap.size W6 wx))
   case first =>
    by_cases hneg:xk < 0
    ·
     have HE1:Hid (NM = ⟨#[63]⟩):=by rw [Hid,HNMX.out];unfold nameOf;rw [if_pos hneg]
     go_wp2_with fail
     go_meet
     case rel => exact ⟨by rw [HE1.out],Below.refl _ _⟩
    ·
     obtain ⟨q,rfl,hq⟩:∃ q:Nat,xk = q ∧ q < fs.length:=by
      rcases HVK.out with ⟨h,-⟩ | ⟨q,h1,h2,-⟩
      ·
       omega
      ·
       exact ⟨q,h1,h2⟩
     obtain ⟨f,HF⟩:∃ f,Hid (f = fs.getD q .zero):=⟨_,rfl⟩
     have HE1:Hid (NM = f.name):=by rw [Hid,HNMX.out,HF.out];unfold nameOf;rw [if_neg (by omega),Int.toNat_natCast]
     have hqn:q < fn:=by rw [HFN.out];exact hq
     obtain ⟨fb,fo,hfb,-,g0,-⟩:=HFT.out.2 q hqn
     subst hfb
     rw [← HF.out] at g0
     have hC6:Below W5.heap.size W5 W6:=HC.out.trans ((HB4.out.trans ((HKW.out W6 (Below.refl _ _)).1.mono HB4.out.size)).mono HC.out.size)
     replace g0:=below_keeps hC6 _ _ g0
     have hixs:=index_run Tryz.underlying23 size_mes rfl m hm (a:=some ⟨sb,so,none⟩) (cap:=sc)
     have hixf:=index_run Tryz.underlying49 size_fld rfl q hqn (a:=some ⟨fb,fo,none⟩) (cap:=fc)
     have hgl:=World.block_lt_of_cell? W6 _ g0
     clear hC6 hneg
     go_upto_region 8 with fail
     go_quiet (fail)
     have HB9:=hid (below_drewN (Below.refl W6.heap.size W6) nq)
     clear g0 c1 hixs hixf hgl d5 dl sl
     go_wp2_with fail
     go_meet
     case rel => exact ⟨by rw [HE1.out],HB9.out⟩
   case rest =>
   obtain ⟨rfl,HCA⟩:=hcut
   obtain ⟨WA,rfl⟩:∃ W,W = wc:=⟨_,rfl⟩
   clear d5 dl c1 sl
   go_upto_if 58 with fail
   obtain ⟨pe,HPE⟩:∃ b:Bool,Hid (b = !path.toList.isEmpty):=⟨_,rfl⟩
   rw [← HPE.out]
   have HPE2:Hid (pe = decide (path.size ≠ 0)):=by
    rw [Hid,HPE.out]
    by_cases hp0:path.size = 0
    ·
     have hp:path = ⟨#[]⟩:=by cases path;simp [ByteArray.size] at hp0;rw [hp0]
     rw [hp,ByteArray.toList_eq];rfl
    ·
     rw [toList_ne hp0];simp [hp0]
   go_cut [16] from 59 to 62 (fun s16 wx => s16 = .string HERE ∧ Hid (Below W6.heap.size W6 wx))
   case first =>
    cases pe with
    | false =>
     have HE1:Hid (HERE = NM):=by
      have h:=HPE2.out
      rw [Hid,HHERE.out];unfold underS
      rw [if_pos (by simpa using h.symm)]
     go_wp2_with fail
     go_meet
     case rel => exact ⟨by rw [HE1.out],HCA.out⟩
    | true =>
     have HE1:Hid (path ++ ⟨#[46]⟩ ++ NM = HERE):=by
      have h:=HPE2.out
      rw [Hid,HHERE.out];unfold underS
      rw [if_neg (by simpa using h.symm)]
     have e2:¬ 9223372036854775807 < path.size + 1:=by have:=HNUM.out.1;omega
     have e3:¬ 9223372036854775807 < path.size + 1 + NM.size:=by have:=HNUM.out.1;have:=HNS.out.2;omega
     go_wp2_with fail
     go_meet
     case rel => exact ⟨by rw [← HE1.out],HCA.out⟩
   case rest =>
   obtain ⟨rfl,HCB⟩:=hcut
   obtain ⟨WB,rfl⟩:∃ W,W = wc:=⟨_,rfl⟩
   obtain ⟨-,⟨-,d2,d3,d4,-⟩,-,dl,-,-⟩:=HKW.out WB HCB.out
   go_wp2_with fail
   refine (HADD.out _ HCB.out).mono ?_
   rintro e w9 ⟨a9,n9,c9,rfl,hn9,hS9,hb9⟩
   have HB9:=hid (HCB.out.trans (hb9.mono HCB.out.size))
   have HS9:=hid hS9
   have HN9:=hid hn9
   clear d2 d3 d4 dl hS9 hn9 hb9
   obtain ⟨-,⟨d5,-,d3,d4,c1⟩,vl,dl,sl,-⟩:=HKW.out w9 HB9.out
   have hix:=index_run Tryz.underlying67 size_rvwA rfl k hlk (a:=some ⟨vb,vo,none⟩) (cap:=ac)
   go_upto_region 12 with fail
   by_cases hsub:isSub fs xk
   ·
    obtain ⟨hs0,hs17⟩:=hsub
    obtain ⟨q,rfl,hq⟩:∃ q:Nat,xk = q ∧ q < fs.length:=by
     rcases HVK.out with ⟨h,-⟩ | ⟨q,h1,h2,-⟩
     ·
      omega
     ·
      exact ⟨q,h1,h2⟩
    rw [Int.toNat_natCast] at hs17
    obtain ⟨f,HF⟩:∃ f,Hid (f = fs.getD q .zero):=⟨_,rfl⟩
    rw [← HF.out] at hs17
    have hqn:q < fn:=by rw [HFN.out];exact hq
    obtain ⟨fb,fo,hfb,-,-,-,g2,-,-,g5⟩:=HFT.out.2 q hqn
    subst hfb
    rw [← HF.out] at g2 g5
    have hofb:=(sright_field HSR.out m HMS.out f (by rw [HF.out,HFS.out];exact getD_memS _ _ _ (by rw [← HFS.out];exact hq))).2.1 hs17
    obtain ⟨o,ho⟩:∃ o:Nat,f.of = o:=⟨_,(Int.toNat_of_nonneg hofb.1).symm⟩
    rw [hs17] at g2
    rw [ho] at g5 hofb
    obtain ⟨d',rfl,hvm⟩:=HVOK.out.sub (k:=q) HXK.out.1 (by rw [← HFS.out,← HF.out];exact hs17)
    rw [← HFS.out,← HF.out,ho,Int.toNat_natCast,HXK.out.2.2.2] at hvm
    obtain ⟨SUB,HSUB⟩:∃ t,Hid (t = evsub s (d' + 1) (o:Int) (part l x4 x5) HERE):=⟨_,rfl⟩
    have HEX:Hid (E x0 = e0 :: SUB):=by
     have h:=evV_sub (s:=s) (d:=d' + 1) (fs:=fs) (l:=l) (p:=path) (x:=x0) (by rw [HXK.out.1,Int.toNat_natCast,← HF.out];exact ⟨by omega,hs17⟩) 0 []
     rw [HXK.out.1,Int.toNat_natCast,← HF.out,ho,HXK.out.2.1,HXK.out.2.2.1,← HNMX.out,← HHERE.out,← HE0.out,← HE.out,← HSUB.out] at h
     exact h.1
    have hC9:Below W5.heap.size W5 w9:=HC.out.trans ((HB4.out.trans ((HKW.out w9 HB9.out).1.mono HB4.out.size)).mono HC.out.size)
    have hkw:=below_keeps hC9
    replace g2:=hkw _ _ g2
    replace g5:=hkw _ _ g5
    have hixs:=index_run Tryz.underlying23 size_mes rfl m hm (a:=some ⟨sb,so,none⟩) (cap:=sc)
    have hixf:=index_run Tryz.underlying49 size_fld rfl q hqn (a:=some ⟨fb,fo,none⟩) (cap:=fc)
    have hgl:=World.block_lt_of_cell? w9 _ g2
    have HOL:Hid (o < s.length):=by rw [Hid];have:=HSN.out;omega
    clear hkw hofb hs0
    have he0:decide (0 ≤ (q:Int)) = true:=decide_eq_true (by omega)
    go_quiet (fail)
    clear he0 g2
    obtain ⟨W14,HW14⟩:∃ W,Hid (W = w9.drewN nq):=⟨_,rfl⟩
    rw [← HW14.out]
    have hb14:Below w9.heap.size w9 W14:=by rw [HW14.out];exact below_drewN (Below.refl _ _) _
    have hkw:=below_keeps hb14
    replace c1:=hkw _ _ c1
    replace g5:=hkw _ _ g5
    replace d3:=hkw _ _ d3
    replace d4:=hkw _ _ d4
    replace d5:=hkw _ _ d5
    have dl:=Nat.lt_of_lt_of_le dl hb14.size
    have vl:=Nat.lt_of_lt_of_le vl hb14.size
    have sl:=Nat.lt_of_lt_of_le sl hb14.size
    have hgl:=Nat.lt_of_lt_of_le hgl hb14.size
    have hcap:bn ≤ vcap:=by obtain ⟨_,_,a',c',e',h3,_⟩:=HBY.out;cases e';exact h3
    have hsl2:=slice_lh_run under_bytes size_u8 va bn vcap x4 x5 (by omega) (by have:=HBN.out;have:=HVD.out.2.2;omega)
    have hbw14:Below w.heap.size w W14.drew:=((HB4.out.trans ((HKW.out w9 HB9.out).1.mono HB4.out.size)).trans (hb14.mono (Nat.le_trans HB4.out.size (HKW.out w9 HB9.out).1.size))).drew
    have hxb2:=(Bytes.sub HBY.out HBN.out x4 x5 (by omega) (by have:=HBN.out;have:=HVD.out.2.2;omega)).below hbw14
    obtain ⟨sv2,HSV2⟩:∃ sv,Hid (sliced va x4 x5 vcap 1 = sv):=⟨_,rfl⟩
    rw [HSV2.out] at hsl2 hxb2
    obtain ⟨ya,yn,yc,rfl⟩:∃ a n c,sv2 = .slice a n c:=⟨_,_,_,HSV2.out.symm⟩
    have hp2:(part l x4 x5).length ≤ 1048576:=by have:=HBN.out;have:=HVD.out.2.2;rw [part_len l _ _ (by omega) (by omega)];omega
    have hnxs:NX = SUB.length + 1:=by rw [HNX.out,HEX.out,List.length_cons]
    have hlen9:=addR_len LK (oneR e0)
    have hpsz:HERE.size + 61 * (d' + 1) ≤ 1048576:=by
     have h1:=HNUM.out.1
     have h2:=HNS.out
     rw [HHERE.out]
     unfold underS
     split
     ·
      omega
     ·
      rw [ByteArray.size_append,ByteArray.size_append]
      have:(⟨#[46]⟩:ByteArray).size = 1:=rfl
      omega
    have hrecc:=HRE.out d' rfl o W14.drew _ (part l x4 x5) HERE a9 n9 c9 (addR LK (oneR e0)) (B + NK * 1048576 + 1048576) HOL.out (hC9.trans (hb14.drew.mono hC9.size)) hxb2 hp2 hvm (HS9.out.below hb14.drew) HN9.out HB1K.out hpsz
     (by rw [← HSUB.out];have:=HNB.out.1;have:=HN9.out;omega) (by rw [← HSUB.out];have h1:=HNB.out.2;rw [hnxs,Nat.add_mul] at h1;omega)
    rw [← HSUB.out] at hrecc
    have HREC:=hid hrecc
    have HB14:=hid (HB9.out.trans (hb14.drew.mono HB9.out.size))
    clear hrecc hb14 hkw hxb2 hp2 hvm hcap hbw14 hC9 hnxs hlen9 hpsz
    go_upto_region 13 with fail
    go_still_tail 22,(by kernel_rfl)
    change wpList _ _ _ _ _ W14.drew
    go_wp2_with fail
    refine HREC.out.mono ?_
    rintro e2 w15 ⟨a15,c15,rfl,hS15,hb15⟩
    have HEND15:Hid (addAll LK (E x0) = addAll (addR LK (oneR e0)) SUB ∧ SegR w15 (.slice a15 (addAll (addR LK (oneR e0)) SUB).length c15) (addAll (addR LK (oneR e0)) SUB) ∧ Below w4.heap.size w4 w15):=by
     refine ⟨by rw [HEX.out];rfl,hS15,?_⟩
     exact (HKW.out w15 (HB14.out.trans (hb15.mono HB14.out.size))).1
    obtain ⟨n15,HN15⟩:∃ n,Hid (n = (addAll (addR LK (oneR e0)) SUB).length):=⟨_,rfl⟩
    rw [← HN15.out] at HEND15 ⊢
    clear hb15 hS15 HREC c1 g5 d3 d4 d5 dl vl sl hgl hixs hixf hsl2 hix
    go_wp2_with fail
    go_roundw
    case rel =>
     refine ⟨k + 1,a15,n15,c15,rfl,by go_num,hlk,?_⟩
     rw [Hid,HTK.out,HEND15.out.1]
     exact ⟨HEND15.out.2.1,HN15.out,HEND15.out.2.2⟩
    case measure => simp [intOf];omega
   ·
    have HEX:Hid (E x0 = [e0]):=by
     have h:=evV_none (s:=s) (d:=d) (fs:=fs) (l:=l) (p:=path) (x:=x0) (by rw [HXK.out.1];exact hsub) 0 []
     rw [HXK.out.1,HXK.out.2.1,HXK.out.2.2.1,← HNMX.out,← HHERE.out,← HE0.out,← HE.out] at h
     exact h.1
    have HEND:Hid (∀ j:Nat,addAll LK (E x0) = addR LK (oneR e0) ∧ SegR (w9.drewN j) (.slice a9 n9 c9) (addR LK (oneR e0)) ∧ Below w4.heap.size w4 (w9.drewN j)):=fun j => by
     have hj:=below_drewN (Below.refl w9.heap.size w9) j
     refine ⟨by rw [HEX.out];rfl,HS9.out.below hj,(HKW.out _ (HB9.out.trans (hj.mono HB9.out.size))).1⟩
    by_cases hneg:xk < 0
    ·
     have he0:decide (0 ≤ xk) = false:=decide_eq_false (by omega)
     go_quiet (fail)
     have HEW:=hid (HEND.out nq)
     clear d3 d4 d5 dl vl sl c1 hix he0
     go_wp2_with fail
     go_roundw
     case rel =>
      refine ⟨k + 1,a9,n9,c9,rfl,by go_num,hlk,?_⟩
      rw [Hid,HTK.out,HEW.out.1]
      exact ⟨HEW.out.2.1,HN9.out,HEW.out.2.2⟩
     case measure => simp [intOf];omega
    ·
     obtain ⟨q,rfl,hq⟩:∃ q:Nat,xk = q ∧ q < fs.length:=by
      rcases HVK.out with ⟨h,-⟩ | ⟨q,h1,h2,-⟩
      ·
       omega
      ·
       exact ⟨q,h1,h2⟩
     unfold isSub at hsub
     rw [Int.toNat_natCast] at hsub
     obtain ⟨f,HF⟩:∃ f,Hid (f = fs.getD q .zero):=⟨_,rfl⟩
     rw [← HF.out] at hsub
     have hqn:q < fn:=by rw [HFN.out];exact hq
     obtain ⟨fb,fo,hfb,-,-,-,g2,-⟩:=HFT.out.2 q hqn
     subst hfb
     rw [← HF.out] at g2
     have he1:((f.kind:Int) == 17) = false:=by
      have:¬ f.kind = 17:=fun h => hsub ⟨by omega,h⟩
      simpa using this
     have hC9:Below W5.heap.size W5 w9:=HC.out.trans ((HB4.out.trans ((HKW.out w9 HB9.out).1.mono HB4.out.size)).mono HC.out.size)
     replace g2:=below_keeps hC9 _ _ g2
     have hixs:=index_run Tryz.underlying23 size_mes rfl m hm (a:=some ⟨sb,so,none⟩) (cap:=sc)
     have hixf:=index_run Tryz.underlying49 size_fld rfl q hqn (a:=some ⟨fb,fo,none⟩) (cap:=fc)
     have hgl:=World.block_lt_of_cell? w9 _ g2
     have he0:decide (0 ≤ (q:Int)) = true:=decide_eq_true (by omega)
     clear hC9 hsub hneg
     go_quiet (fail)
     have HEW:=hid (HEND.out nq)
     clear d3 d4 d5 dl vl sl c1 hix he0 he1 g2 hixs hixf hgl
     go_wp2_with fail
     go_roundw
     case rel =>
      refine ⟨k + 1,a9,n9,c9,rfl,by go_num,hlk,?_⟩
      rw [Hid,HTK.out,HEW.out.1]
      exact ⟨HEW.out.2.1,HN9.out,HEW.out.2.2⟩
     case measure => simp [intOf];omega
  ·
   obtain rfl:k = an:=by omega
   have HE1:Hid (Q (.returned (.slice oa on oc)) wr):=by
    have h:=HJ.out
    rw [List.take_of_length_le (by rw [← HAN.out];exact Nat.le_refl _)] at h
    rw [HQ.out,h.2.1]
    rw [h.2.1] at h
    exact ⟨_,_,rfl,h.1,HB4.out.trans (h.2.2.mono HB4.out.size)⟩
   go_wp2_with fail
   exact HE1.out
theorem ref28_Rows {W5:World} {sv:Value} {s:List Mes} (hs:sright s = true) (hS:SchemaAt W5 sv s):∀ d,RRowsOk s sv W5 d
 | 0 => ref28_Rows_step hs hS 0 fun _ h => by omega
 | d + 1 => ref28_Rows_step hs hS (d + 1) fun d' h => by
  have e:d = d':=by omega
  subst e
  exact ref28_Rows hs hS d
end Go.Proofs.YtphkmpnahnakaaaGreat
namespace Go.Proofs.YtphkmpnahnakaaaGreat
open Go.RowKit
theorem vcheck_depth {s:List Mes} {q:Nat} {d:Int} {l:List UInt8} (h:(vcheck s (q:Int) l d).2 = 0):depL s d.toNat (q:Int) l ≤ 64 ∧ depL s d.toNat (q:Int) l ≤ d.toNat ∧ ∀ k:Nat,k ≤ 64 → ((vcheck s (q:Int) l (k:Int)).2 = 0 ↔ depL s d.toNat (q:Int) l ≤ k):=by
 obtain ⟨g1,⟨g2,g3⟩,⟨g4,g5⟩,g6⟩:=vcheck_ok h
 rw [Int.toNat_natCast] at g6
 have hd:=valid_depth d.toNat q l g6
 have h1:=(hd d.toNat).1 g6
 refine ⟨by omega,h1,fun k hk => ?_⟩
 rw [← hd k]
 unfold vcheck
 have ha:argsCode s (q:Int) (k:Int) = 0:=by
  unfold argsCode
  rw [if_neg (by simp [g1]),if_neg (by omega)]
 rw [if_neg (by omega)]
 simp
set_option maxRecDepth 100000 in
set_option maxHeartbeats 4000000 in
theorem ref11_Depth {w:World} {vs vb:Value} {s:List Mes} {l:List UInt8} (hS:SchemaAt w vs s) (hb:Bytes w vb l) (hl:l.length ≤ 1099511627776) {q:Nat} {d:Int} (hv:(vcheck s (q:Int) l d).2 = 0) :
  Calls Tryz.prog 12 #[vs,.int .i64 (q:Int),vb] w fun e w' => e = .returned (.int .i64 (depL s d.toNat (q:Int) l:Nat)) ∧ Below w.heap.size w w':=by
 obtain ⟨h1,-,h2⟩:=vcheck_depth hv
 obtain ⟨D,HD⟩:∃ D,Hid (D = depL s d.toNat (q:Int) l):=⟨_,rfl⟩
 rw [← HD.out] at h1 h2 ⊢
 have HI:Hid (∀ (W:World) (k:Nat),k ≤ 64 → Below w.heap.size w W → Calls Tryz.prog 24 #[vs,.int .i64 (q:Int),vb,.int .i64 (k:Int)] W fun e w' => e = .returned (.bool (decide (D ≤ k))) ∧ Below W.heap.size W w'):=fun W k hk hW => by
  refine (ref11_Is (hS.below hW) (hb.below hW) hl (q:Int) (k:Int)).mono ?_
  rintro e w' ⟨rfl,hb'⟩
  refine ⟨?_,hb'⟩
  congr 2
  exact decide_eq_decide.2 (h2 k hk)
 obtain ⟨-,sa,sc,rfl,-⟩:=hS.open
 obtain ⟨-,a,c,rfl,-⟩:=hb.open
 generalize s.length = n at *
 generalize l.length = m at *
 obtain ⟨Q,HQ⟩:∃ Q:Ending → World → Prop,Hid (Q = fun e w' => e = .returned (.int .i64 (D:Nat)) ∧ Below w.heap.size w w'):=⟨_,rfl⟩
 rw [← HQ.out]
 have HEND:Hid (∀ (k:Nat) w',k = D → Below w.heap.size w w' → Q (.returned (.int .i64 (k:Int))) w'):=fun k w' hk hb => by rw [HQ.out,hk];exact ⟨rfl,hb⟩
 clear hS hb hl hv h2
 go_enter Tryz.func12,Tryz.ntmps12
 go_wp2_with fail
 go_loopw [7] (fun v7 wr => ∃ k:Nat,v7 = .int .i64 (k:Int) ∧ k ≤ 64 ∧ k ≤ D ∧ Hid (Below w.heap.size w wr)) (fun v7 _ => 64 - (intOf v7).toNat)
 case atStart => exact ⟨0,rfl,by omega,by omega,hid (Below.refl _ _)⟩
 case round =>
  obtain ⟨k,rfl,hk,hkD,HJ⟩:=hrel
  by_cases hlt:k < 64
  ·
   have HII:=hid (HI.out wr k hk HJ.out)
   by_cases hd:D ≤ k
   ·
    rw [decide_eq_true hd] at HII
    have HE:=hid (fun (w':World) => HEND.out k w' (by omega))
    clear hd hkD
    go_wp2_with fail
    refine HII.out.mono ?_
    rintro e w1 ⟨rfl,hb1⟩
    have HB1:=hid (HJ.out.trans (hb1.mono HJ.out.size))
    clear hb1
    go_wp2_with fail
    exact HE.out _ HB1.out
   ·
    rw [decide_eq_false hd] at HII
    go_wp2_with fail
    refine HII.out.mono ?_
    rintro e w1 ⟨rfl,hb1⟩
    have HB1:=hid (HJ.out.trans (hb1.mono HJ.out.size))
    clear hb1
    go_wp2_with fail
    go_roundw
    case rel => exact ⟨k + 1,by go_num,hlt,by omega,HB1⟩
    case measure => simp [intOf];omega
  ·
   obtain rfl:k = 64:=by omega
   have HE:=hid (HEND.out 64 wr (by omega) HJ.out)
   go_wp2_with fail
   exact HE.out
end Go.Proofs.YtphkmpnahnakaaaGreat
namespace Go.Proofs.YtphkmpnahnakaaaGreat
open Go.RowKit
def endsF:Nat → List (List UInt8) → List Int
 | _,[] => []
 | i,x :: r => ((i + x.length:Nat):Int) :: endsF (i + x.length) r
theorem endsF_step {wire:Nat} {l:List UInt8} {i m:Nat} (hne:l.drop i ≠ []) (he:runSize wire (l.drop i) = (m,0)) (hm:i + m ≤ l.length) :
  endsF i (rpieces wire (l.drop i)) = ((i:Int) + (m:Int)) :: endsF (i + m) (rpieces wire (l.drop (i + m))):=by
 rw [rpieces_step wire (l.drop i) hne m he,endsF,List.drop_drop]
 have h1:((l.drop i).take m).length = m:=by rw [List.length_take,List.length_drop];omega
 rw [h1,Int.natCast_add]
set_option maxRecDepth 100000 in
set_option maxHeartbeats 4000000 in
theorem ref09_Ends2 {w:World} {v:Value} {l:List UInt8} (h:Bytes w v l) (hsm:l.length ≤ 1099511627776) (k:Int) (hk:knumber k = true) :
  Calls Tryz.prog 33 #[.int .i64 k,v] w fun e w' => (∃ o,e = .returned (.tuple #[o,.int .i64 (runCount (kwire k) l).2]) ∧ IntsOwn w' w.heap.size o (if (runCount (kwire k) l).2 = 0 then endsF 0 (rpieces (kwire k) l) else [])) ∧ Below w.heap.size w w':=by
 obtain ⟨hlen,a,cap,rfl,-,-,-,hcell⟩:=h.open
 obtain ⟨n,HN⟩:∃ n,Hid (n = l.length):=⟨_,rfl⟩
 obtain ⟨x,HX⟩:∃ x,Hid (x = (runCount (kwire k) l).2):=⟨_,rfl⟩
 rw [← HX.out]
 obtain ⟨L,HL⟩:∃ L,Hid (L = if x = 0 then endsF 0 (rpieces (kwire k) l) else []):=⟨_,rfl⟩
 rw [← HL.out]
 have H:=hid h
 rw [← HN.out] at hlen hcell hsm ⊢
 clear hcell
 have HK:=hid hk
 clear hk h
 go_enter Tryz.func33,Tryz.ntmps33
 go_wp2_with (go_at_call 39;refine (ref06_Number k _).mono ?_;rintro e w' ⟨rfl,rfl⟩;rw [HK.out])
 obtain ⟨i0,hinf,hz0,hz1,hz2⟩:=info_parts (show (Tryz.prog.info? 3).map (fun i => (i.zero,i.size,i.bytes)) = some (some (.int .i64 0),1,8) by kernel_rfl)
 have HZ:=hid (And.intro hinf (And.intro hz0 (And.intro hz1 hz2)))
 clear hinf hz0 hz1 hz2
 go_loopw [6,7] (fun v6 v7 wr => ∃ i:Nat,i ≤ n ∧ v7 = .int .i64 i ∧ Hid ((runCount (kwire k) (l.drop i)).2 = x) ∧ (∃ cnt row es,Hid (wr.ownsRow w.heap.size 3 1 v6 cnt row) ∧ Hid (cnt ≤ i) ∧ Hid (row = es.map intV ∧ cnt = es.length ∧ endsF 0 (rpieces (kwire k) l) = es ++ endsF i (rpieces (kwire k) (l.drop i)))) ∧ Hid (Below w.heap.size w wr)) (fun _ v7 _ => n - (intOf v7).toNat)
 case atStart => exact ⟨0,by omega,rfl,HX.out.symm,⟨0,[],[],World.ownsRow_nil _ _ _ _,Nat.le_refl _,rfl,rfl,by simp⟩,Below.refl _ _⟩
 case round =>
  obtain ⟨i,hi,rfl,HR,⟨cnt,row,es,HOWN,HCN,HES⟩,HBEL⟩:=hrel
  by_cases hlt:i < n
  ·
   have hwr:Bytes wr (.slice a n cap) l:=by
    have:=H.out.keep (below_keeps HBEL.out)
    rw [HN.out];exact this
   have hne:l.drop i ≠ []:=by
    intro e
    have:=congrArg List.length e
    simp at this
    have:=HN.out
    omega
   have HNE:=hid hne
   clear hne
   rcases runSize_cases (kwire k) (l.drop i) with ⟨m,e,h1,h2,h3⟩ | ⟨c,e,hc⟩
   ·
    have HE:=hid e
    have HST:=hid (runCount_step (kwire k) (l.drop i) HNE.out m e)
    have hin:i + m ≤ n:=by rw [List.length_drop] at h3;have:=HN.out;omega
    have HEF:=hid (endsF_step HNE.out e (by rw [← HN.out];exact hin))
    clear e h3
    have HWR:=hid hwr
    clear hwr
    by_cases hk9:k < 9
    ·
     have hv:∃ wv,Hid (vread (l.drop i) = (wv,m,0)):=by
      have:=HE.out
      unfold runSize at this
      rw [if_pos (by have:=HK.out;unfold kwire;simp [knumber] at this;(repeat (first | rw [if_neg (by omega)] | rw [if_pos (by omega)])))] at this
      injection this with e1 e2
      exact ⟨(vread (l.drop i)).1,by rw [Hid,← e1,← e2]⟩
     obtain ⟨wv,HVR⟩:=hv
     go_wp2_with (first | (go_at_call 56;refine (ref02_Read_at HWR.out _ i rfl (by rw [← HN.out];omega)).mono ?_;rintro e w' ⟨rfl,rfl⟩;rw [HVR.out]) | (at_builtin;(refine wpList_append_own _ rfl _ _ 33 rfl w.heap.size 3 i0 (.int .i64 0) 1 8 Tryz.underlying33 HZ.out.1 HZ.out.2.1 HZ.out.2.2.1 HZ.out.2.2.2 rfl (by decide) _ _ _ rfl (HOWN.out.alloc _) ⟨wr.heap.size,0,none⟩ 1 1 [.int .i64 ((i:Int) + (m:Int))] rfl rfl (cell_one_new _ _ _) (by simp [Value.oneCell']) (by have:=HCN.out;simp only [maxLen];omega) (by have:=HCN.out;omega) (by have:=HBEL.out.size;simp;omega) ?_);intro v' w1 hown' hgrow _))
     go_roundw
     case rel =>
      refine ⟨i + m,hin,by go_num,?_,⟨cnt + 1,_,es ++ [(i:Int) + (m:Int)],hown',by have:=HCN.out;show cnt + 1 ≤ i + m;omega,by rw [HES.out.1];simp [intV],by rw [HES.out.2.1];simp,by rw [HES.out.2.2,HEF.out];simp⟩,?_⟩
      ·
       have h5:=HST.out
       rw [List.drop_drop] at h5
       rw [Hid,← HR.out,h5]
       by_cases h6:(runCount (kwire k) (l.drop (i + m))).2 = 0 <;> simp [h6]
      ·
       exact (HBEL.out.alloc HBEL.out.size _).grown hgrow (by simp;have:=HBEL.out.size;omega) (fun q e => (HOWN.out.lt q e).1)
     case measure => simp [intOf];omega
    ·
     have hmm:m = if kwire k = 1 then 8 else 4:=by
      have h7:=HE.out
      unfold runSize at h7
      rw [if_neg (by rw [kwire_num k HK.out,if_neg hk9];split <;> decide)] at h7
      by_cases h8:(l.drop i).length < (if kwire k = 1 then 8 else 4)
      ·
       rw [if_pos h8] at h7;cases h7
      ·
       rw [if_neg h8] at h7;exact (congrArg Prod.fst h7).symm
     by_cases hk12:k < 12
     ·
      obtain rfl:m = 4:=by
       rw [hmm,kwire_num k HK.out,if_neg hk9,if_pos hk12];rfl
      clear hmm
      go_wp2_with (at_builtin;(refine wpList_append_own _ rfl _ _ 33 rfl w.heap.size 3 i0 (.int .i64 0) 1 8 Tryz.underlying33 HZ.out.1 HZ.out.2.1 HZ.out.2.2.1 HZ.out.2.2.2 rfl (by decide) _ _ _ rfl (HOWN.out.alloc _) ⟨wr.heap.size,0,none⟩ 1 1 [.int .i64 ((i:Int) + 4)] rfl rfl (cell_one_new _ _ _) (by simp [Value.oneCell']) (by have:=HCN.out;simp only [maxLen];omega) (by have:=HCN.out;omega) (by have:=HBEL.out.size;simp;omega) ?_);intro v' w1 hown' hgrow _)
      go_roundw
      case rel =>
       refine ⟨i + 4,hin,by go_num,?_,⟨cnt + 1,_,es ++ [(i:Int) + 4],hown',by have:=HCN.out;show cnt + 1 ≤ i + 4;omega,by rw [HES.out.1];simp [intV],by rw [HES.out.2.1];simp,by rw [HES.out.2.2,HEF.out];simp⟩,?_⟩
       ·
        have h5:=HST.out
        rw [List.drop_drop] at h5
        rw [Hid,← HR.out,h5]
        by_cases h6:(runCount (kwire k) (l.drop (i + 4))).2 = 0 <;> simp [h6]
       ·
        exact (HBEL.out.alloc HBEL.out.size _).grown hgrow (by simp;have:=HBEL.out.size;omega) (fun q e => (HOWN.out.lt q e).1)
      case measure => simp [intOf];omega
     ·
      obtain rfl:m = 8:=by
       rw [hmm,kwire_num k HK.out,if_neg hk9,if_neg hk12];rfl
      clear hmm
      go_wp2_with (at_builtin;(refine wpList_append_own _ rfl _ _ 33 rfl w.heap.size 3 i0 (.int .i64 0) 1 8 Tryz.underlying33 HZ.out.1 HZ.out.2.1 HZ.out.2.2.1 HZ.out.2.2.2 rfl (by decide) _ _ _ rfl (HOWN.out.alloc _) ⟨wr.heap.size,0,none⟩ 1 1 [.int .i64 ((i:Int) + 8)] rfl rfl (cell_one_new _ _ _) (by simp [Value.oneCell']) (by have:=HCN.out;simp only [maxLen];omega) (by have:=HCN.out;omega) (by have:=HBEL.out.size;simp;omega) ?_);intro v' w1 hown' hgrow _)
      go_roundw
      case rel =>
       refine ⟨i + 8,hin,by go_num,?_,⟨cnt + 1,_,es ++ [(i:Int) + 8],hown',by have:=HCN.out;show cnt + 1 ≤ i + 8;omega,by rw [HES.out.1];simp [intV],by rw [HES.out.2.1];simp,by rw [HES.out.2.2,HEF.out];simp⟩,?_⟩
       ·
        have h5:=HST.out
        rw [List.drop_drop] at h5
        rw [Hid,← HR.out,h5]
        by_cases h6:(runCount (kwire k) (l.drop (i + 8))).2 = 0 <;> simp [h6]
       ·
        exact (HBEL.out.alloc HBEL.out.size _).grown hgrow (by simp;have:=HBEL.out.size;omega) (fun q e => (HOWN.out.lt q e).1)
      case measure => simp [intOf];omega
   ·
    have HE:=hid e
    have HBD:=hid (runCount_bad (kwire k) (l.drop i) HNE.out c (by omega) (by rw [e]))
    obtain rfl:x = c:=by rw [← HR.out,HBD.out]
    have HWR:=hid hwr
    clear hwr e
    by_cases hk9:k < 9
    ·
     obtain ⟨wv,HVR⟩:∃ wv,Hid (vread (l.drop i) = (wv,0,x)):=by
      have:=HE.out
      unfold runSize at this
      rw [if_pos (by rw [kwire_num k HK.out,if_pos hk9])] at this
      injection this with e1 e2
      exact ⟨(vread (l.drop i)).1,by rw [Hid,← e1,← e2]⟩
     have e1:((x:Int) == 0) = false:=by simp;omega
     have e2:((x:Int) != 0) = true:=by simp;omega
     have HCC:=hid hc
     clear hc
     go_wp2_with (go_at_call 56;refine (ref02_Read_at HWR.out _ i rfl (by rw [← HN.out];omega)).mono ?_;rintro e w' ⟨rfl,rfl⟩;rw [HVR.out])
     go_ret2
     exact ⟨⟨_,rfl,by rw [HL.out,if_neg (by have:=HCC.out;omega)];exact World.ownsRow_nil _ _ _ _⟩,HBEL.out⟩
    ·
     by_cases hk12:k < 12
     ·
      obtain ⟨rfl,hs⟩:x = 3 ∧ n < i + 4:=by
       have h7:=HE.out
       unfold runSize at h7
       rw [if_neg (by rw [kwire_num k HK.out,if_neg hk9];split <;> decide)] at h7
       by_cases h8:(l.drop i).length < (if kwire k = 1 then 8 else 4)
       ·
        rw [if_pos h8] at h7
        rw [kwire_num k HK.out,if_neg hk9,if_pos hk12,List.length_drop] at h8
        have:=HN.out
        exact ⟨(congrArg Prod.snd h7).symm,by simp at h8;omega⟩
       ·
        rw [if_neg h8] at h7;have:=congrArg Prod.snd h7;simp at this;omega
      go_wp2
      go_ret2
      exact ⟨⟨_,rfl,by rw [HL.out,if_neg (by decide)];exact World.ownsRow_nil _ _ _ _⟩,HBEL.out⟩
     ·
      obtain ⟨rfl,hs⟩:x = 3 ∧ n < i + 8:=by
       have h7:=HE.out
       unfold runSize at h7
       rw [if_neg (by rw [kwire_num k HK.out,if_neg hk9];split <;> decide)] at h7
       by_cases h8:(l.drop i).length < (if kwire k = 1 then 8 else 4)
       ·
        rw [if_pos h8] at h7
        rw [kwire_num k HK.out,if_neg hk9,if_neg hk12,List.length_drop] at h8
        have:=HN.out
        exact ⟨(congrArg Prod.snd h7).symm,by simp at h8;omega⟩
       ·
        rw [if_neg h8] at h7;have:=congrArg Prod.snd h7;simp at this;omega
      go_wp2
      go_ret2
      exact ⟨⟨_,rfl,by rw [HL.out,if_neg (by decide)];exact World.ownsRow_nil _ _ _ _⟩,HBEL.out⟩
  ·
   obtain rfl:i = n:=by omega
   obtain rfl:x = 0:=by
    rw [← HR.out,List.drop_eq_nil_of_le (by rw [HN.out];exact Nat.le_refl _),runCount_nil]
   have HFIN:Hid (IntsOwn wr w.heap.size u6 (endsF 0 (rpieces (kwire k) l))):=by
    have h1:=HES.out.2.2
    rw [List.drop_eq_nil_of_le (by rw [HN.out];exact Nat.le_refl _),rpieces_nil,endsF,List.append_nil] at h1
    have h2:=HOWN.out
    rw [HES.out.1,HES.out.2.1] at h2
    rw [h1];exact h2
   go_wp2
   go_ret2
   exact ⟨⟨_,rfl,by rw [HL.out,if_pos trivial];exact HFIN.out⟩,HBEL.out⟩
end Go.Proofs.YtphkmpnahnakaaaGreat
