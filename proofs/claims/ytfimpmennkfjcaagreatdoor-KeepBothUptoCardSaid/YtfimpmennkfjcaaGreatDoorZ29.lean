/- keep.part: what a mask keeps, or leaves, of valid bytes (kpart). At most 2^30 bytes. -/
import Derived.Test.YtfimpmennkfjcaaGreatDoorZ02
import Derived.Test.YtfimpmennkfjcaaGreatDoorZ13
import Derived.Test.YtfimpmennkfjcaaGreatDoorZ23
import Derived.Test.YtfimpmennkfjcaaGreatDoorZ26
import Derived.Test.YtfimpmennkfjcaaGreatDoorZ28
import Derived.StillTailTactics
import Derived.Deep.RegionHeld3
import Derived.Deep.CutBlock
import Derived.Deep.CutRange
namespace Go.Proofs.YtfimpmennkfjcaaGreatDoor
open Go.RowKit Go.Shelf
theorem views_at {w:World} {a:Option Addr} {n c base:Nat} {T:TypeId} {l:List VW} (h:RowsOwn viewP T 7 0 base w (.slice a n c) l) (hl:l.length ≤ 140737488355328) (k:Nat) (x:VW) (hk:l[k]? = some x) :
  ∃ b o,a = some ⟨b,o,none⟩ ∧ base ≤ b ∧ b < w.heap.size ∧ ∀ j u,x.cells[j]? = some u → w.cell? ⟨b,o + k * 7 + j,none⟩ = some u:=by
 have hown:=h.own
 obtain ⟨rows,g1,g2,⟨-,-,a',cap',he,-,-,-,g3⟩,g4⟩:=h.at hl (w':=w) (fun _ _ _ => rfl)
 have hkl:=(List.getElem?_eq_some_iff.1 hk).1
 obtain ⟨r,hr⟩:∃ r,rows[k]? = some r:=⟨_,List.getElem?_eq_getElem (by omega)⟩
 have hx:r = x.cells:=g4 k r x hr hk
 cases he
 have hfl:∀ j u,x.cells[j]? = some u → rows.flatten[k * 7 + j]? = some u:=by
  intro j u hu
  have hj:j < 7:=by
   have:=(List.getElem?_eq_some_iff.1 hu).1
   simpa [VW.cells,viewL] using this
  rw [flatten_get rows k j r g2 hr hj,hx];exact hu
 obtain ⟨b,o,ha,-⟩:=g3 (k * 7) _ (by simpa using hfl 0 _ (by rfl))
 cases ha
 obtain ⟨h1,h2⟩:=hown b rfl
 refine ⟨b,o,rfl,h1,h2,fun j u hu => ?_⟩
 obtain ⟨b',o',ha',hc⟩:=g3 (k * 7 + j) u (hfl j u hu)
 cases ha'
 rw [Nat.add_assoc];exact hc
def KPartOk (w0:World) (sv:Value) (s:List Mes) (keep:Bool) (d:Nat):Prop:=∀ (m:Nat) (w:World) (v mv:Value) (l:List UInt8) (ws:List (List Int)),m < s.length → Below w0.heap.size w0 w → Bytes w v l → l.length ≤ 1073741824 → WaysAt w mv ws → LightW ws → (vmsg s d m l).2 = 0 →
 Calls Tryz.prog 59 #[sv,.int .i64 (m:Int),v,maskV mv,.bool keep] w fun e w' => ∃ v',e = .returned v' ∧ Own w' w.heap.size v' (kpart s keep d m (mOf ws) l) ∧ Below w.heap.size w w'
theorem size_vw (w:World):(sizeOf 140).run Tryz.prog w = .ok 7 w:=by kernel_rfl
theorem mem_getD {α:Type} (l:List α) (k:Nat) (z:α) (h:k < l.length):l.getD k z ∈ l:=by
 have:l.getD k z = l[k]:=by simp [List.getD,h]
 rw [this];exact List.getElem_mem h
theorem drop_flat {α β:Type} {f:α → List β} {l:List α} {k:Nat} {x:α} (h:l[k]? = some x):(l.drop k).flatMap f = f x ++ (l.drop (k + 1)).flatMap f:=by
 rw [show l.drop k = x :: l.drop (k + 1) by rw [List.getElem?_eq_some_iff] at h;obtain ⟨h1,h2⟩:=h;rw [← h2];exact List.drop_eq_getElem_cons h1,List.flatMap_cons]
set_option maxRecDepth 100000 in
set_option maxHeartbeats 8000000 in
theorem keep_part_step {w0:World} {sv:Value} {s:List Mes} (hs:sright s = true) (hS0:SchemaAt w0 sv s) (keep:Bool) (d:Nat) (hrec:∀ d',d = d' + 1 → KPartOk w0 sv s keep d'):KPartOk w0 sv s keep d:=by
 intro m w v mv l ws hm hw hb hl hM hL hv
 have HLL:=hid hl
 have HRE:=hid hrec
 obtain ⟨fs,HFS⟩:∃ fs,Hid (fs = (s.getD m .zero).fields):=⟨_,rfl⟩
 have hS:=hS0.below hw
 obtain ⟨-,sa,sc,rfl,hat⟩:=hS.open
 obtain ⟨sn,HSN⟩:∃ n,Hid (n = s.length):=⟨_,rfl⟩
 obtain ⟨sb,so,fv,hsa,-,c0,c1,hF⟩:=hat m hm
 subst hsa
 rw [← HFS.out] at hF
 rw [← HSN.out] at hS0 hS HRE hm ⊢
 obtain ⟨nm,HNM⟩:∃ nm,Hid (nm = (s.getD m .zero).name):=⟨_,rfl⟩
 rw [← HNM.out] at c0
 obtain ⟨-,va,vcap,rfl,-,-,-,-⟩:=hb.open
 obtain ⟨ln,HL⟩:∃ n,Hid (n = l.length):=⟨_,rfl⟩
 obtain ⟨-,ma,mc,rfl,-,-⟩:=hM.open
 obtain ⟨mn,HMN⟩:∃ n,Hid (n = ws.length):=⟨_,rfl⟩
 rw [← HMN.out] at hM ⊢
 rw [← HL.out] at hb ⊢
 obtain ⟨hfl,fa,fc,rfl,-⟩:=hF.open
 obtain ⟨fn,HFN⟩:∃ n,Hid (n = fs.length):=⟨_,rfl⟩
 rw [← HFN.out] at hF c1
 obtain ⟨all,HALL⟩:∃ all,Hid (all = (vall fs l).1):=⟨_,rfl⟩
 obtain ⟨zc,HZC⟩:∃ z,Hid (z = (vall fs l).2.1):=⟨_,rfl⟩
 have hok:=vall_ok hv
 rw [← HFS.out] at hok
 have hall:=hok.1
 have hvs:=hok.2
 rw [← HALL.out] at hvs
 have HVS:=hid hvs
 obtain ⟨P,HP⟩:∃ P:VW → List UInt8,Hid (P = kpiece (ksub s keep d) fs keep (mOf ws) l):=⟨_,rfl⟩
 have HK:Hid (kpart s keep d m (mOf ws) l = all.flatMap P):=by rw [Hid,kpart_eq,HALL.out,HP.out,HFS.out]
 have HKL:Hid ((all.flatMap P).length ≤ 1073741824):=by
  have h1:=kpart_le (keep:=keep) (ws:=mOf ws) hv
  rw [HK.out] at h1
  show _ ≤ _
  omega
 obtain ⟨Q,HQ⟩:∃ Q:Ending → World → Prop,Hid (Q = fun e w' => ∃ v',e = .returned v' ∧ Own w' w.heap.size v' (kpart s keep d m (mOf ws) l) ∧ Below w.heap.size w w'):=⟨_,rfl⟩
 rw [← HQ.out]
 have HEND:Hid (∀ v' w' base,w.heap.size ≤ base → Own w' base v' (all.flatMap P) → Below w.heap.size w w' → Q (.returned v') w'):=by
  intro v' w' base h0 h1 h2
  rw [HQ.out]
  exact ⟨v',rfl,by rw [HK.out];exact h1.mono h0,h2⟩
 obtain ⟨X,HX⟩:∃ X,Hid (X = w.heap.size):=⟨_,rfl⟩
 obtain ⟨W1,HW1⟩:∃ W1,Hid (W1 = w.alloc (.cells #[.slice ma mn mc] 37)):=⟨_,rfl⟩
 have hb1:Below w.heap.size w W1:=by rw [HW1.out];exact (Below.refl _ _).alloc (Nat.le_refl _) _
 have hk1:Blk W1 X [.slice ma mn mc] 37:=by rw [HW1.out,HX.out];exact Blk.new w [.slice ma mn mc] _
 have HA:=hid (view_All (hb.below hb1) (by rw [← HL.out] at hl;have:=HL.out;omega) (hF.below hb1) nm)
 have HALL3:=hid hall
 have HB1:=hid hb1
 have HK1:=hid hk1
 have HBY:=hid hb
 have HFT:=hid hF
 have HMW:=hid (And.intro hM hL)
 have HHS:=hid hw
 have HS0:=hid (And.intro hS0 hs)
 have HV:=hid hv
 have HC01:=hid (And.intro c0 c1)
 have hkr1:=below_keeps hb1
 replace c0:=hkr1 _ _ c0
 replace c1:=hkr1 _ _ c1
 have hl1:=hk1.lt
 clear hb1 hk1 hb hF hM hL hw hS0 hS hs hrec hat hok hall hvs hv hkr1 HQ HK
 unfold maskV
 go_enter Tryz.func59,Tryz.ntmps59
 go_upto_region 1 with fail
 rw [← HW1.out,← HX.out]
 go_wp2_with fail
 refine HA.out.mono ?_
 rintro e w4 ⟨av,ab,rfl,hab,hrows,hb4⟩
 rw [← HALL.out] at hrows
 rw [← HZC.out,HALL3.out]
 obtain ⟨aa,ac,rfl⟩:=hrows.form
 obtain ⟨an,HAN⟩:∃ n,Hid (n = all.length):=⟨_,rfl⟩
 have hanl:an ≤ 1073741824:=by
  have h1:all.length ≤ l.length:=by rw [HALL.out];exact vall_len fs l
  have:=HAN.out
  have:=HLL.out
  omega
 rw [← HAN.out] at hrows ⊢
 have HROWS:=hid hrows
 have HB4:=hid (HB1.out.trans (hb4.mono HB1.out.size))
 have HK4:=hid (HK1.out.below hb4)
 have HSZ:Hid (w.heap.size ≤ w4.heap.size ∧ W1.heap.size ≤ w4.heap.size):=⟨HB4.out.size,hb4.size⟩
 clear hrows hb4 hab c0 c1 hl1 HA
 go_wp2_with fail
 go_loopw [11,37] (fun v11 v37 wr => ∃ (k:Nat) (oa:Option Addr) (on oc:Nat) (acc:List UInt8),v11 = .slice oa on oc ∧ v37 = .int .i64 (k:Int) ∧ k ≤ an ∧ Hid (Own wr w4.heap.size (.slice oa on oc) acc ∧ acc ++ (all.drop k).flatMap P = all.flatMap P ∧ Below w4.heap.size w4 wr)) (fun _ v37 _ => an - (intOf v37).toNat)
 case atStart => exact ⟨0,none,0,0,[],rfl,rfl,by omega,own_nil _ _,by simp,Below.refl _ _⟩
 case round =>
  obtain ⟨k,oa,on,oc,acc,rfl,rfl,hk,HJ⟩:=hrel
  by_cases hlk:k < an
  ·
   obtain ⟨x,hx⟩:∃ x,all[k]? = some x:=⟨_,List.getElem?_eq_getElem (by rw [← HAN.out];exact hlk)⟩
   obtain ⟨vb,vo,haa,hvb1,hvb2,hvc⟩:=views_at HROWS.out (by rw [← HAN.out];omega) k x hx
   subst haa
   have hvok:=HVS.out x (List.mem_of_getElem? hx)
   obtain ⟨hv1,hv2,hv3,hvk⟩:=hvok.facts
   have HDR:=hid (drop_flat (f:=P) hx)
   have hkr:=below_keeps HJ.out.2.2
   have n0:=hkr _ _ (hvc 0 _ rfl)
   have n1:=hkr _ _ (hvc 1 _ rfl)
   have n2:=hkr _ _ (hvc 2 _ rfl)
   have n3:=hkr _ _ (hvc 3 _ rfl)
   have n4:=hkr _ _ (hvc 4 _ rfl)
   have n5:=hkr _ _ (hvc 5 _ rfl)
   have n6:=hkr _ _ (hvc 6 _ rfl)
   rw [Nat.add_zero] at n0
   have HVOK:=hid hvok
   obtain ⟨x0,HX0⟩:∃ x0,Hid (x0 = x):=⟨_,rfl⟩
   rw [← HX0.out] at HDR HVOK
   obtain ⟨⟨x1,x2,x3,x4,x5⟩,xk,xrun⟩:=x
   simp only at n0 n1 n2 n3 n4 n5 n6 hv1 hv2 hv3 hvk
   have hvl:vb < wr.heap.size:=World.block_lt_of_cell? wr _ n0
   have hix:=index_run Tryz.underlying135 size_vw rfl k hlk (a:=some ⟨vb,vo,none⟩) (cap:=ac)
   clear hvc hx hvok hkr hvb1 hvb2
   obtain ⟨W6,HW6⟩:∃ W6,Hid (W6 = wr.alloc (.cells #[.int .i64 x1,.int .i64 x2,.int .i64 x3,.int .i64 x4,.int .i64 x5,.int .i64 xk,.bool xrun] 140)):=⟨_,rfl⟩
   obtain ⟨VB,HVB⟩:∃ VB,Hid (VB = wr.heap.size):=⟨_,rfl⟩
   have hb6:Below wr.heap.size wr W6:=by rw [HW6.out];exact (Below.refl _ _).alloc (Nat.le_refl _) _
   have hv6:Blk W6 VB [.int .i64 x1,.int .i64 x2,.int .i64 x3,.int .i64 x4,.int .i64 x5,.int .i64 xk,.bool xrun] 140:=by rw [HW6.out,HVB.out];exact Blk.new wr [.int .i64 x1,.int .i64 x2,.int .i64 x3,.int .i64 x4,.int .i64 x5,.int .i64 xk,.bool xrun] _
   have HB6:=hid hb6
   have HV6:=hid hv6
   have HBW6:=hid (HB4.out.trans ((HJ.out.2.2.trans (hb6.mono HJ.out.2.2.size)).mono HB4.out.size))
   have HO6:=hid (HJ.out.1.below_of hb6)
   clear hb6 hv6
   have hcap:ln ≤ vcap:=by obtain ⟨_,_,a',c',e',h3,_⟩:=HBY.out;cases e';exact h3
   have hsl:=slice_lh_run under_bytes size_u8 va ln vcap x3 x5 (by omega) (by have:=HL.out;omega)
   have hxb:=Bytes.sub HBY.out HL.out x3 x5 (by omega) (by rw [HL.out];omega)
   obtain ⟨sv,HSV⟩:∃ sv,Hid (sliced va x3 x5 vcap 1 = sv):=⟨_,rfl⟩
   rw [HSV.out] at hsl hxb
   obtain ⟨wa,wn,wc,rfl⟩:∃ a n c,sv = .slice a n c:=⟨_,_,_,HSV.out.symm⟩
   have HWB:=hid hxb
   rw [← HFS.out] at hvk
   have HVD:=hid (And.intro hv1 (And.intro hv2 hv3))
   have HVK:=hid hvk
   have HAL:Hid (acc.length ≤ 1073741824):=by
    have h1:=congrArg List.length HJ.out.2.1
    rw [List.length_append] at h1
    have h2:=HKL.out
    show _ ≤ _
    omega
   clear hxb hvk hv1 hv2 hv3 hcap
   go_upto_region 6 with fail
   rw [← HW6.out,← HVB.out]
   have d0:=HV6.out.cell 0 _ rfl
   have d2:=HV6.out.cell 2 _ rfl
   have d4:=HV6.out.cell 4 _ rfl
   have d5:=HV6.out.cell 5 _ rfl
   have dl:=HV6.out.lt
   clear n0 n1 n2 n3 n4 n5 n6 hix hvl
   have HXK:Hid (x0.k = xk ∧ vbytes l x0 = part l x4 x5 ∧ x0.r.start = x3 ∧ x0.r.to = x5 ∧ x0.r.number = x1):=by rw [HX0.out];exact ⟨rfl,rfl,rfl,rfl,rfl⟩
   by_cases hneg:xk < 0
   ·
    have HPX:Hid (P x0 = if keep = true then [] else part l x3 x5):=by
     rw [Hid,HP.out];unfold kpiece;rw [HXK.out.1,if_pos hneg,HXK.out.2.2.1,HXK.out.2.2.2.1]
    cases keep with
    | true =>
     go_wp2_with fail
     go_roundw
     case rel => exact ⟨k + 1,oa,on,oc,acc,rfl,by go_num,hlk,HO6.out,by rw [← HJ.out.2.1,HDR.out,HPX.out];simp,HJ.out.2.2.trans (HB6.out.mono HJ.out.2.2.size)⟩
     case measure => simp [intOf];omega
    | false =>
     have hx6:=HWB.out.below HBW6.out
     obtain ⟨v7,w7,hr7,hO7,hg7,-⟩:=own_append HO6.out hx6 (by have:=HAL.out;have:=HLL.out;unfold part;rw [List.length_take,List.length_drop];omega) (by have:=HJ.out.2.2.size;have:=HB6.out.size;omega)
     have HBX7:=hid (own_grown HO6.out (HJ.out.2.2.trans (HB6.out.mono HJ.out.2.2.size)) hg7)
     obtain ⟨a7,c7,rfl⟩:=hO7.form
     obtain ⟨n7,HN7⟩:∃ n,Hid (n = (acc ++ part l x3 x5).length):=⟨_,rfl⟩
     rw [← HN7.out] at hO7 hr7
     have HO7:=hid hO7
     clear hx6 hO7 hg7
     go_wp2_with (at_builtin;refine wpList_append_eq rfl _ _ _ rfl _ _ rfl rfl hr7 ?_)
     go_roundw
     case rel => exact ⟨k + 1,_,_,_,acc ++ part l x3 x5,rfl,by go_num,hlk,HO7.out,by rw [← HJ.out.2.1,HDR.out,HPX.out];simp,HBX7.out⟩
     case measure => simp [intOf];omega
   ·
    obtain ⟨q,rfl,hq,hrun⟩:∃ q:Nat,xk = q ∧ q < fs.length ∧ (xrun = true → knumber (fs.getD q .zero).kind = true):=by
     rcases HVK.out with ⟨h,-⟩ | ⟨q,h1,h2,h3,-⟩
     ·
      omega
     ·
      exact ⟨q,h1,h2,fun h => (h3 h).2⟩
    obtain ⟨f,HF⟩:∃ f,Hid (f = fs.getD q .zero):=⟨_,rfl⟩
    obtain ⟨-,fa',fc',hfe,hfat⟩:=(HFT.out.below HBW6.out).open
    rw [← HFN.out] at hfe
    have hfa:fa = fa':=by injection hfe
    subst hfa
    obtain ⟨fb,fo,hfb,hok,g0,g1,g2,g3,g4,g5⟩:=hfat q hq
    rw [← HF.out] at hok g0 g1 g2 g3 g4 g5 hrun
    have HOKF:=hid hok
    clear hfat hfe hok
    subst hfb
    have hqn:q < fn:=by rw [HFN.out];exact hq
    have hkw:=below_keeps HBW6.out
    have c0:=hkw _ _ HC01.out.1
    have c1:=hkw _ _ HC01.out.2
    have hixf:=index_run Tryz.underlying65 size_fld rfl q hqn (a:=some ⟨fb,fo,none⟩) (cap:=fc)
    have hgl:=World.block_lt_of_cell? W6 _ g0
    have hsl6:=World.block_lt_of_cell? W6 _ c1
    clear hkw
    go_upto_region 10 with fail
    have q0:W6.drew.cell? ⟨sb,so + m * 2 + 1,none⟩ = some (.slice (some ⟨fb,fo,none⟩) fn fc) ∧ W6.drew.cell? ⟨VB,5,none⟩ = some (.int .i64 (q:Int)) ∧ W6.drew.cell? ⟨fb,fo + q * 6,none⟩ = some (.string f.name) ∧ W6.drew.cell? ⟨fb,fo + q * 6 + 1,none⟩ = some (.int .i64 f.number) ∧ W6.drew.cell? ⟨fb,fo + q * 6 + 2,none⟩ = some (.int .i64 f.kind) ∧ W6.drew.cell? ⟨fb,fo + q * 6 + 3,none⟩ = some (.bool f.rep) ∧ W6.drew.cell? ⟨fb,fo + q * 6 + 4,none⟩ = some (.bool f.packed) ∧ W6.drew.cell? ⟨fb,fo + q * 6 + 5,none⟩ = some (.int .i64 f.of):=⟨c1,d5,g0,g1,g2,g3,g4,g5⟩
    go_region_held3 (fun w' => w'.cell? ⟨sb,so + m * 2 + 1,none⟩ = some (.slice (some ⟨fb,fo,none⟩) fn fc) ∧ w'.cell? ⟨VB,5,none⟩ = some (.int .i64 (q:Int)) ∧ w'.cell? ⟨fb,fo + q * 6,none⟩ = some (.string f.name) ∧ w'.cell? ⟨fb,fo + q * 6 + 1,none⟩ = some (.int .i64 f.number) ∧ w'.cell? ⟨fb,fo + q * 6 + 2,none⟩ = some (.int .i64 f.kind) ∧ w'.cell? ⟨fb,fo + q * 6 + 3,none⟩ = some (.bool f.rep) ∧ w'.cell? ⟨fb,fo + q * 6 + 4,none⟩ = some (.bool f.packed) ∧ w'.cell? ⟨fb,fo + q * 6 + 5,none⟩ = some (.int .i64 f.of)) (first | (with_reducible exact q0) | go_keep) (fail)
    obtain ⟨FB,HFB⟩:∃ b,Hid (b = W6.heap.size):=⟨_,rfl⟩
    obtain ⟨W7,HW7⟩:∃ W,Hid (W = (W6.alloc (.cells #[.string f.name,.int .i64 f.number,.int .i64 f.kind,.bool f.rep,.bool f.packed,.int .i64 f.of] 64)).drew):=⟨_,rfl⟩
    have hb7:Below W6.heap.size W6 W7:=by rw [HW7.out];exact ((Below.refl _ _).alloc (Nat.le_refl _) _).drew
    have hf7:Blk W7 FB [.string f.name,.int .i64 f.number,.int .i64 f.kind,.bool f.rep,.bool f.packed,.int .i64 f.of] 64:=by rw [HW7.out,HFB.out];exact Blk.new W6 [.string f.name,.int .i64 f.number,.int .i64 f.kind,.bool f.rep,.bool f.packed,.int .i64 f.of] _
    rw [← HW7.out,← HFB.out]
    have HB7:=hid hb7
    have HF7:=hid hf7
    have HV7:=hid (HV6.out.below hb7)
    have HB46:=hid (HJ.out.2.2.trans (HB6.out.mono HJ.out.2.2.size))
    have HB47:=hid (HB46.out.trans (hb7.mono HB46.out.size))
    have HK7:=hid (HK4.out.below HB47.out)
    have HBW7:=hid (HBW6.out.trans (hb7.mono HBW6.out.size))
    have HAPP:Hid (∀ W,Below W6.heap.size W6 W → ∃ a7 n7 c7 w7,(Builtin.append_ #[24,24] 24 #[.slice oa on oc,.slice wa wn wc]).run Tryz.prog W = .ok (.slice a7 n7 c7) w7 ∧ Own w7 w4.heap.size (.slice a7 n7 c7) (acc ++ part l x3 x5) ∧ Below w4.heap.size w4 w7):=by
     intro W hW
     have hbw:Below w.heap.size w W:=HBW6.out.trans (hW.mono HBW6.out.size)
     have hb4:Below w4.heap.size w4 W:=HB46.out.trans (hW.mono HB46.out.size)
     obtain ⟨v7,w7,hr7,hO7,hg7,-⟩:=own_append (HO6.out.below_of hW) (HWB.out.below hbw) (by have:=HAL.out;have:=HLL.out;unfold part;rw [List.length_take,List.length_drop];omega) hb4.size
     obtain ⟨a7,c7,rfl⟩:=hO7.form
     exact ⟨a7,_,c7,w7,hr7,hO7,own_grown (HO6.out.below_of hW) hb4 hg7⟩
    have HU:=hid (mask_Under (HMW.out.1.below HBW7.out) HMW.out.2 f.number)
    unfold maskV at HU
    have k0:=HK7.out.cell 0 _ rfl
    have kl:=HK7.out.lt
    have f1:=HF7.out.cell 1 _ rfl
    have fl:=HF7.out.lt
    clear q0 c0 c1 g0 g1 g2 g3 g4 g5 hgl hsl6 hixf d0 d2 d4 d5 dl hb7 hf7
    go_wp2_with fail
    refine HU.out.mono ?_
    rintro e w8 ⟨v8,rfl,hN8,hb8⟩
    obtain ⟨-,ua,uc,rfl,-,-⟩:=hN8.here.open
    obtain ⟨U,HUU⟩:∃ U,Hid (U = underW (mOf ws) f.number):=⟨_,rfl⟩
    rw [← HUU.out] at hN8 ⊢
    obtain ⟨un,HUN⟩:∃ n,Hid (n = U.length):=⟨_,rfl⟩
    rw [← HUN.out] at hN8 ⊢
    unfold maskV
    obtain ⟨MB,HMB⟩:∃ b,Hid (b = w8.heap.size):=⟨_,rfl⟩
    obtain ⟨W9,HW9⟩:∃ W,Hid (W = w8.alloc (.cells #[.slice ua un uc] 37)):=⟨_,rfl⟩
    have hb9:Below w8.heap.size w8 W9:=by rw [HW9.out];exact (Below.refl _ _).alloc (Nat.le_refl _) _
    have hm9:Blk W9 MB [.slice ua un uc] 37:=by rw [HW9.out,HMB.out];exact Blk.new w8 [.slice ua un uc] _
    have hb79:Below W7.heap.size W7 W9:=hb8.trans (hb9.mono hb8.size)
    have HM9:=hid hm9
    have HU9:=hid (hN8.here.below hb9)
    have HF9:=hid (HF7.out.below hb79)
    have HV9:=hid (HV7.out.below hb79)
    have HK9:=hid (HK7.out.below hb79)
    have HB9:=hid (HB7.out.trans (hb79.mono HB7.out.size))
    have HBW9:=hid (HBW7.out.trans (hb79.mono HBW7.out.size))
    have HWH:=hid (mask_Whole (HMW.out.1.below HBW9.out) HMW.out.2 f.number)
    unfold maskV at HWH
    obtain ⟨y,HY⟩:∃ y,Hid (y = (mOf ws).any (wholeW f.number)):=⟨_,rfl⟩
    rw [← HY.out] at HWH
    clear hN8 hb8 hm9 hb9 hb79 k0 kl f1 fl HU
    go_upto_region 12 with fail
    rw [← HW9.out,← HMB.out]
    have k0:=HK9.out.cell 0 _ rfl
    have kl:=HK9.out.lt
    have f1:=HF9.out.cell 1 _ rfl
    have fl:=HF9.out.lt
    go_wp2_with fail
    refine HWH.out.mono ?_
    rintro e w10 ⟨rfl,hb10⟩
    have HM10:=hid (HM9.out.below hb10)
    have HU10:=hid (HU9.out.below hb10)
    have HF10:=hid (HF9.out.below hb10)
    have HV10:=hid (HV9.out.below hb10)
    have HB10:=hid (HB9.out.trans (hb10.mono HB9.out.size))
    have HBW10:=hid (HBW9.out.trans (hb10.mono HBW9.out.size))
    have HB410:=hid (HB46.out.trans (HB10.out.mono HB46.out.size))
    clear hb10 k0 kl f1 fl HWH
    have HPX:Hid (P x0 = if y = true then (if keep = true then part l x3 x5 else []) else if U ≠ [] ∧ f.kind = 17 ∧ f.rep = false then part l x3 (x3 + tagN l x3) ++ (vput (ksub s keep d f.of U (part l x4 x5)).length ++ ksub s keep d f.of U (part l x4 x5)) else if keep = true then [] else part l x3 x5):=by
     rw [Hid,HP.out]
     unfold kpiece
     rw [HXK.out.1,if_neg (by omega),Int.toNat_natCast,← HF.out,← HY.out,← HUU.out,HXK.out.2.1,HXK.out.2.2.1,HXK.out.2.2.2.1]
    cases y with
    | true =>
     rw [if_pos rfl] at HPX
     cases keep with
     | true =>
      rw [if_pos rfl] at HPX
      obtain ⟨a7,n7,c7,w7,hr7,hO7,hb7⟩:=HAPP.out w10 HB10.out
      have HO7:=hid (And.intro hO7 hb7)
      clear hO7 hb7
      go_wp2_with (at_builtin;refine wpList_append_eq rfl _ _ _ rfl _ _ rfl rfl hr7 ?_)
      go_roundw
      case rel => exact ⟨k + 1,_,_,_,acc ++ part l x3 x5,rfl,by go_num,hlk,HO7.out.1,by rw [← HJ.out.2.1,HDR.out,HPX.out];simp,HO7.out.2⟩
      case measure => simp [intOf];omega
     | false =>
      rw [if_neg (by decide)] at HPX
      go_wp2_with fail
      go_roundw
      case rel => exact ⟨k + 1,oa,on,oc,acc,rfl,by go_num,hlk,HO6.out.below_of HB10.out,by rw [← HJ.out.2.1,HDR.out,HPX.out];simp,HB410.out⟩
      case measure => simp [intOf];omega
    | false =>
     rw [if_neg (by decide)] at HPX
     have f2:=HF10.out.cell 2 _ rfl
     have f3:=HF10.out.cell 3 _ rfl
     have fl:=HF10.out.lt
     by_cases hc:0 < un ∧ f.kind = 17 ∧ f.rep = false
     ·
      obtain ⟨hu0,hk17,hrep⟩:=hc
      have HC17:Hid (U ≠ [] ∧ f.kind = 17 ∧ f.rep = false):=⟨by rintro rfl;rw [HUN.out] at hu0;simp at hu0,hk17,hrep⟩
      rw [if_pos HC17.out] at HPX
      rw [hrep] at f3
      rw [hk17] at f2
      have hfm:f ∈ (s.getD m .zero).fields:=by
       rw [HF.out,← HFS.out]
       exact mem_getD fs q _ hq
      have hofb:=(sright_field HS0.out.2 m (by rw [← HSN.out];exact hm) f hfm).2.1 hk17
      obtain ⟨r,hr⟩:∃ r:Nat,f.of = r:=⟨f.of.toNat,by omega⟩
      obtain ⟨d',rfl,hvm⟩:=HVOK.out.sub (k:=q) HXK.out.1 (by rw [← HFS.out,← HF.out];exact hk17)
      rw [← HFS.out,← HF.out,HXK.out.2.1,hr,Int.toNat_natCast] at hvm
      obtain ⟨j0,hj0⟩:=HVOK.out.look
      obtain ⟨hrn,hst⟩:=vlook_next hj0
      rw [HXK.out.2.2.1] at hst
      subst hst
      obtain ⟨-,s2,s3,s4,s5,s6,-,-⟩:=rec_shape hrn
      obtain ⟨-,-,-,-,-,-,-,-,-,ht⟩:=rnext_cut hrn
      rw [HXK.out.2.2.2.1] at ht s5 s6
      have hx4:x0.r.at' = x4:=by rw [HX0.out]
      rw [hx4] at s4 s5
      obtain ⟨T1,T2,T3,T4,HT⟩:∃ T1 T2 T3 T4,Hid (tread (part l x3 x5) = (T1,T2,T3,T4)):=⟨_,_,_,_,rfl⟩
      have hT3:T3 = tagN l x3:=by
       rw [← ht];unfold tagN;rw [List.drop_zero,HT.out]
      have hcap:ln ≤ vcap:=by obtain ⟨_,_,a',c',e',h3,_⟩:=HBY.out;cases e';exact h3
      have hsl2:=slice_lh_run under_bytes size_u8 va ln vcap x4 x5 (by omega) (by have:=HL.out;omega)
      have hxb2:=Bytes.sub HBY.out HL.out x4 x5 (by omega) (by rw [HL.out];omega)
      obtain ⟨sv2,HSV2⟩:∃ sv,Hid (sliced va x4 x5 vcap 1 = sv):=⟨_,rfl⟩
      rw [HSV2.out] at hsl2 hxb2
      obtain ⟨ya,yn,yc,rfl⟩:∃ a n c,sv2 = .slice a n c:=⟨_,_,_,HSV2.out.symm⟩
      have hwn:wn = (part l x3 x5).length:=by obtain ⟨-,a',c',e',-⟩:=HWB.out.open;injection e'
      have hpl:(part l x3 x5).length = x5 - x3:=part_len l _ _ (by omega) (by omega)
      obtain ⟨pv,hpr,hpb⟩:=Bytes.h HWB.out hwn T3 (by rw [hwn,hpl,hT3];omega)
      have hpt:(part l x3 x5).take T3 = part l x3 (x3 + T3):=by
       unfold part
       rw [List.take_take,Nat.add_sub_cancel_left,Nat.min_eq_left (by omega)]
      rw [hpt] at hpb
      obtain ⟨-,pa,pc,rfl,-⟩:=hpb.open
      have hp2:(part l x4 x5).length ≤ 1073741824:=by have:=HLL.out;rw [part_len l _ _ (by omega) (by omega)];omega
      obtain ⟨V,HV1⟩:∃ V,Hid (V = kpart s keep d' r U (part l x4 x5)):=⟨_,rfl⟩
      have hUs:mOf U = U:=by rw [HUU.out];exact under_self ws f.number
      have hVl:V.length ≤ 1073741824:=by
       have:=kpart_le (keep:=keep) (ws:=U) hvm
       rw [← HV1.out] at this
       omega
      have HREC:=hid (HRE.out d' rfl r w10.drew _ (.slice ua un uc) _ U (by have:=hofb.2;omega) ((HHS.out.trans (HBW10.out.mono HHS.out.size)).drew) ((hxb2.below HBW10.out).drewN 1) hp2 (HU10.out.keep fun _ _ h => h) (by rw [HUU.out];exact underW_light (mOf_light HMW.out.2) _) hvm)
      unfold maskV at HREC
      rw [hUs,← HV1.out] at HREC
      have HPV:Hid (P x0 = part l x3 (x3 + T3) ++ (vput V.length ++ V)):=by
       have e:ksub s keep (d' + 1) f.of U (part l x4 x5) = V:=by rw [HV1.out];show kpart s keep d' f.of.toNat U (part l x4 x5) = _;rw [hr,Int.toNat_natCast]
       rw [Hid,HPX.out,e,hT3]
      have HVL:=hid hVl
      have HPB:=hid hpb
      have f5:=HF10.out.cell 5 _ rfl
      rw [hr] at f5
      have m0:=HM10.out.cell 0 _ rfl
      have ml:=HM10.out.lt
      have v3:=HV10.out.cell 3 _ rfl
      have v4:=HV10.out.cell 4 _ rfl
      have vl:=HV10.out.lt
      have e1:decide (0 < un) = true:=decide_eq_true hu0
      clear hwn hT3 hr
      clear hfm hofb hrn hj0 ht hpl hpt hp2 hUs hvm hcap hxb2 hVl hpb s2 s3 s4 s5 s6 HPX
      go_upto_region 16 with fail
      go_still_tail 13,(by kernel_rfl)
      change wpList _ _ _ _ _ w10.drew
      go_wp2_with fail
      refine HREC.out.mono ?_
      rintro e w11 ⟨v11,rfl,hO11,hb11⟩
      have HB11:=hid ((Below.refl w10.heap.size w10).drew.trans hb11)
      obtain ⟨xa,xc,rfl⟩:=hO11.form
      obtain ⟨vn,HVN⟩:∃ n,Hid (n = V.length):=⟨_,rfl⟩
      rw [← HVN.out] at hO11 ⊢
      have HO11:=hid hO11
      have HBW11:=hid (HBW10.out.trans (HB11.out.mono HBW10.out.size))
      have HTR:=hid (tag_Read (HWB.out.below HBW11.out))
      rw [HT.out] at HTR
      clear hO11 hb11 f2 f3 f5 fl m0 ml v3 v4 vl
      go_wp2_with fail
      refine HTR.out.mono ?_
      rintro e w12 ⟨rfl,hb12⟩
      obtain ⟨W13,HW13⟩:∃ W,Hid (W = w12.alloc (.cells #[.int .i64 T1,.int .i64 T2] 163)):=⟨_,rfl⟩
      have hb13:Below w12.heap.size w12 W13:=by rw [HW13.out];exact (Below.refl _ _).alloc (Nat.le_refl _) _
      have hb10:Below w10.heap.size w10 W13:=(HB11.out.trans (hb12.mono HB11.out.size)).trans (hb13.mono (HB11.out.trans (hb12.mono HB11.out.size)).size)
      have HB13:=hid (HB10.out.trans (hb10.mono HB10.out.size))
      have HB413:=hid (HB410.out.trans (hb10.mono HB410.out.size))
      have HBW13:=hid (HBW10.out.trans (hb10.mono HBW10.out.size))
      have HO13:=hid (HO11.out.below_of (hb12.trans (hb13.mono hb12.size)))
      have HS10:=hid (HB10.out.size)
      obtain ⟨v14,w14,hr14,hO14,hg14,-⟩:=own_append (HO6.out.below_of HB13.out) (HPB.out.below HBW13.out) (by have:=HAL.out;have:=HLL.out;unfold part;rw [List.length_take,List.length_drop];omega) HB413.out.size
      have hb414:=own_grown (HO6.out.below_of HB13.out) HB413.out hg14
      obtain ⟨qa,qc,rfl⟩:=hO14.form
      obtain ⟨qn,HQN⟩:∃ n,Hid (n = (acc ++ part l x3 (x3 + T3)).length):=⟨_,rfl⟩
      rw [← HQN.out] at hO14 hr14
      have hqn1:(acc ++ part l x3 (x3 + T3)).length ≤ 1099511627776:=by
       have:=HAL.out;have:=HLL.out;unfold part
       rw [List.length_append,List.length_take,List.length_drop];omega
      have HPUT:=hid (varint_Put (hO14.bytes (by omega)) hqn1 V.length (by have:=HVL.out;omega))
      rw [← HVN.out] at HPUT
      have HW14:=hid (And.intro hb414 hg14)
      have hvn:vn ≤ 1073741824:=by have:=HVL.out;have:=HVN.out;omega
      have HQL:=hid hqn1
      clear hb12 hb13 hb10 hO14 hg14 hb414 hqn1 HB11 HTR HREC HAPP
      go_upto_region 18 with fail
      rw [← HW13.out]
      go_wp2_with (at_builtin;refine wpList_append_eq (o:=⟨some 118,_,_,_,_,_⟩) rfl _ _ _ rfl _ _ rfl rfl hr14 ?_)
      refine HPUT.out.mono ?_
      rintro e w15 ⟨v15,rfl,hO15,hb15⟩
      have hg1:w4.heap.size ≤ w14.heap.size:=HW14.out.1.size
      have hO15':Own w15 w4.heap.size v15 ((acc ++ part l x3 (x3 + T3)) ++ vput vn):=hO15.mono hg1
      obtain ⟨ra,rc,rfl⟩:=hO15'.form
      obtain ⟨rn,HRN⟩:∃ n,Hid (n = ((acc ++ part l x3 (x3 + T3)) ++ vput vn).length):=⟨_,rfl⟩
      rw [← HRN.out] at hO15' ⊢
      have hb415:Below w4.heap.size w4 w15:=HW14.out.1.trans (hb15.mono hg1)
      have hb1315:Below w.heap.size w w15:=HB4.out.trans (hb415.mono HB4.out.size)
      have hV15:Bytes w15 (.slice xa vn xc) V:=by
       have h1:Own w14 w10.drew.heap.size (.slice xa vn xc) V:=row_keep HO13.out fun b cur hb he => HW14.out.2.block b (Array.getElem?_eq_some_iff.1 he).1 fun e => by
        have h2:=(World.ownsRow.lt HO6.out b e.symm).2
        have h3:=HS10.out
        have h4:w10.heap.size ≤ b:=hb
        omega
       exact (h1.bytes (by have:=HVL.out;omega)).below hb15
      obtain ⟨v16,w16,hr16,hO16,hg16,-⟩:=own_append hO15' hV15 (by have:=HVL.out;have:=HQL.out;have:=vput_le (x:=vn) (by omega);rw [List.length_append];omega) hb415.size
      have hb416:=own_grown hO15' hb415 hg16
      obtain ⟨ta,tc,rfl⟩:=hO16.form
      obtain ⟨tn,HTN⟩:∃ n,Hid (n = ((acc ++ part l x3 (x3 + T3)) ++ vput vn ++ V).length):=⟨_,rfl⟩
      rw [← HTN.out] at hO16 hr16
      have HO16:=hid (And.intro hO16 hb416)
      have HACC:Hid ((acc ++ part l x3 (x3 + T3)) ++ vput vn ++ V = acc ++ P x0):=by
       rw [Hid,HPV.out,← HVN.out];simp
      clear hO15 hb15 hO15' hb415 hb1315 hV15 hO16 hg16 hb416 hg1 hvn HPUT
      go_wp2_with (at_builtin;refine wpList_append_eq (o:=⟨some 124,_,_,_,_,_⟩) rfl _ _ _ rfl _ _ rfl rfl hr16 ?_)
      go_roundw
      case rel => exact ⟨k + 1,_,_,_,_,rfl,by go_num,hlk,HO16.out.1,by rw [HACC.out,← HJ.out.2.1,HDR.out];simp,HO16.out.2⟩
      case measure => simp [intOf];omega
     ·
      have HPX2:Hid (P x0 = if keep = true then [] else part l x3 x5):=by
       rw [Hid,HPX.out,if_neg]
       rintro ⟨h1,h2⟩
       refine hc ⟨?_,h2⟩
       rw [HUN.out]
       exact List.length_pos_iff.2 h1
      have hcs:un = 0 ∨ (0 < un ∧ f.kind ≠ 17) ∨ (0 < un ∧ f.kind = 17 ∧ f.rep = true):=by
       rcases Nat.eq_zero_or_pos un with h | h
       ·
        exact .inl h
       ·
        by_cases h2:f.kind = 17
        ·
         refine .inr (.inr ⟨h,h2,?_⟩)
         cases h3:f.rep with
         | true => rfl
         | false => exact absurd ⟨h,h2,h3⟩ hc
        ·
         exact .inr (.inl ⟨h,h2⟩)
      clear hc HPX
      cases keep with
      | true =>
       rw [if_pos rfl] at HPX2
       rcases hcs with hcs | ⟨h1,h2⟩ | ⟨h1,h2,h3⟩
       ·
        have e1:decide (0 < un) = false:=decide_eq_false (by omega)
        go_wp2_with fail
        go_roundw
        case rel => exact ⟨k + 1,oa,on,oc,acc,rfl,by go_num,hlk,HO6.out.below_of HB10.out,by rw [← HJ.out.2.1,HDR.out,HPX2.out];simp,HB410.out⟩
        case measure => simp [intOf];omega
       ·
        have e1:decide (0 < un) = true:=decide_eq_true h1
        have e2:((f.kind:Int) == 17) = false:=by simpa using h2
        go_wp2_with fail
        go_roundw
        case rel => exact ⟨k + 1,oa,on,oc,acc,rfl,by go_num,hlk,HO6.out.below_of HB10.out,by rw [← HJ.out.2.1,HDR.out,HPX2.out];simp,HB410.out⟩
        case measure => simp [intOf];omega
       ·
        have e1:decide (0 < un) = true:=decide_eq_true h1
        rw [h2] at f2
        rw [h3] at f3
        go_wp2_with fail
        go_roundw
        case rel => exact ⟨k + 1,oa,on,oc,acc,rfl,by go_num,hlk,HO6.out.below_of HB10.out,by rw [← HJ.out.2.1,HDR.out,HPX2.out];simp,HB410.out⟩
        case measure => simp [intOf];omega
      | false =>
       rw [if_neg (by decide)] at HPX2
       obtain ⟨a7,n7,c7,w7,hr7,hO7,hb7⟩:=HAPP.out w10 HB10.out
       have HO7:=hid (And.intro hO7 hb7)
       clear hO7 hb7
       rcases hcs with hcs | ⟨h1,h2⟩ | ⟨h1,h2,h3⟩
       ·
        have e1:decide (0 < un) = false:=decide_eq_false (by omega)
        go_wp2_with (at_builtin;refine wpList_append_eq rfl _ _ _ rfl _ _ rfl rfl hr7 ?_)
        go_roundw
        case rel => exact ⟨k + 1,_,_,_,acc ++ part l x3 x5,rfl,by go_num,hlk,HO7.out.1,by rw [← HJ.out.2.1,HDR.out,HPX2.out];simp,HO7.out.2⟩
        case measure => simp [intOf];omega
       ·
        have e1:decide (0 < un) = true:=decide_eq_true h1
        have e2:((f.kind:Int) == 17) = false:=by simpa using h2
        go_wp2_with (at_builtin;refine wpList_append_eq rfl _ _ _ rfl _ _ rfl rfl hr7 ?_)
        go_roundw
        case rel => exact ⟨k + 1,_,_,_,acc ++ part l x3 x5,rfl,by go_num,hlk,HO7.out.1,by rw [← HJ.out.2.1,HDR.out,HPX2.out];simp,HO7.out.2⟩
        case measure => simp [intOf];omega
       ·
        have e1:decide (0 < un) = true:=decide_eq_true h1
        rw [h2] at f2
        rw [h3] at f3
        go_wp2_with (at_builtin;refine wpList_append_eq rfl _ _ _ rfl _ _ rfl rfl hr7 ?_)
        go_roundw
        case rel => exact ⟨k + 1,_,_,_,acc ++ part l x3 x5,rfl,by go_num,hlk,HO7.out.1,by rw [← HJ.out.2.1,HDR.out,HPX2.out];simp,HO7.out.2⟩
        case measure => simp [intOf];omega
  ·
   obtain rfl:k = an:=by omega
   have HE:=hid (HEND.out _ wr w4.heap.size HSZ.out.1 (by
    have h:=HJ.out.2.1
    rw [List.drop_eq_nil_of_le (by rw [← HAN.out];exact Nat.le_refl _),List.flatMap_nil,List.append_nil] at h
    rw [← h]
    exact HJ.out.1) (HB4.out.trans (HJ.out.2.2.mono HB4.out.size)))
   go_wp2_with fail
   exact HE.out
theorem keep_part {w0:World} {sv:Value} {s:List Mes} (hs:sright s = true) (hS0:SchemaAt w0 sv s) (keep:Bool):∀ d,KPartOk w0 sv s keep d
 | 0 => keep_part_step hs hS0 keep 0 fun _ h => by omega
 | d + 1 => keep_part_step hs hS0 keep (d + 1) fun d' h => by
  have e:d = d':=by omega
  subst e
  exact keep_part hs hS0 keep d
end Go.Proofs.YtfimpmennkfjcaaGreatDoor
