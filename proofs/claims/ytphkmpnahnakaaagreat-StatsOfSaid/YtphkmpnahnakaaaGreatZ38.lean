/- darningref28.Add: a row, put into its place (addR). At most 2^30 rows, numbers below 2^61. Plain laws: how deep valid bytes are (depL), and how many messages lie how deep (atC), are what the depths tell. No condition. darningref10.All: all views of bytes (vall). At most 2^40 bytes. -/
import Derived.Test.YtphkmpnahnakaaaGreatZ22
import Derived.Test.YtphkmpnahnakaaaGreatZ24
import Derived.Test.YtphkmpnahnakaaaGreatZ37
import Derived.BigQuiet
import Derived.Deep.CutBlock
import Derived.Deep.CutRange
import Derived.Sort.Walk0
import Derived.Deep.DeepCutAuto
namespace Go.Proofs.YtphkmpnahnakaaaGreat
open Go.RowKit Go.Shelf Go.Sort
theorem size_rrow (w:World):(sizeOf 41).run Tryz.prog w = .ok 4 w:=by kernel_rfl
theorem info_rrow:(Tryz.prog.info? 41).map (fun i => (i.zero,i.size,i.bytes)) = some (some (.agg #[.string ⟨#[]⟩,.int .i64 0,.int .i64 0,.int .i64 0]),4,40):=by kernel_rfl
theorem rowsOwn_segT {T:TypeId} {w w':World} {v:Value} {base:Nat} {l:List SR} (h:RowsOwn srP T 4 0 base w v l) (hl:l.length ≤ 140737488355328) (hb:Below w.heap.size w w'):SegR w' v l:=by
 obtain ⟨rows,h1,-,h3,h4⟩:=h.at hl (w':=w') fun b hlt _ => hb.block b hlt
 unfold SegR
 rw [← flat_rows h1 h4]
 exact h3
theorem less_bytes (a b:ByteArray):Op.bytesLess a.toList b.toList = decide (lessS a b):=by
 rw [bytesLess_eq,ByteArray.toList_eq,ByteArray.toList_eq]
 rfl
theorem gt_bytes (p q:ByteArray):(!Op.bytesLess p.toList q.toList && !p.toList == q.toList) = decide (lessS q p):=by
 rw [less_bytes]
 by_cases h:lessS q p
 ·
  have h1:¬ lessS p q:=fun h2 => lessS_irrefl _ (lessS_trans h h2)
  have h2:(p.toList == q.toList) = false:=by
   cases hb:(p.toList == q.toList) with
   | false => rfl
   | true =>
    have:=(toList_inj _ _).1 (eq_of_beq hb)
    rw [this] at h
    exact absurd h (lessS_irrefl _)
  rw [decide_eq_false h1,h2,decide_eq_true h]
  rfl
 ·
  rw [decide_eq_false h]
  by_cases h1:p = q
  ·
   rw [h1];simp
  ·
   rw [decide_eq_true (lessS_tri h (fun e => h1 e.symm))];rfl
theorem row_push {base:Nat} {wr:World} {oa:Option Addr} {on oc:Nat} {O:List SR} (h:RowsOwn srP 41 4 0 base wr (.slice oa on oc) O) (hon:on = O.length) (hbs:base ≤ wr.heap.size) (hlen:on ≤ 1099511627776) (p:ByteArray) (a b c:Nat) {u1 u2 u3:Int} (h1:u1 = (a:Int)) (h2:u2 = (b:Int)) (h3:u3 = (c:Int)) :
  ∃ a9 c9 w9,(Builtin.append_ #[38,38] 38 #[.slice oa on oc,.slice (some ⟨wr.heap.size,0,none⟩) 1 1]).run Tryz.prog (wr.alloc (.cells #[.string p,.int .i64 u1,.int .i64 u2,.int .i64 u3] 41)) = .ok (.slice a9 (on + 1) c9) w9 ∧
   RowsOwn srP 41 4 0 base w9 (.slice a9 (on + 1) c9) (O ++ [⟨p,a,b,c⟩]) ∧ Below base wr w9:=by
 subst h1
 subst h2
 subst h3
 obtain ⟨a9,c9,w9,hr9,hO9,hb9,-,-⟩:=h.step' (by decide) hbs hon.symm 38 _ 40 Tryz.underlying38 info_rrow rfl #[.string p,.int .i64 (a:Int),.int .i64 (b:Int),.int .i64 (c:Int)] rfl (by intro u hu;simp at hu;rcases hu with rfl | rfl | rfl | rfl <;> rfl) (⟨p,a,b,c⟩:SR) (fun _ _ => rfl) hlen (by decide)
 exact ⟨a9,c9,w9,hr9,hO9,hb9⟩
set_option maxRecDepth 100000 in
set_option maxHeartbeats 16000000 in
theorem ref28_Add {w:World} {la:Option Addr} {n lc:Nat} {L:List SR} (hL:SegR w (.slice la n lc) L) (hn:n = L.length) (hln:n ≤ 1073741824) (P:ByteArray) (X1 X2 X3:Nat) (hx:X1 ≤ 1152921504606846976 ∧ X2 ≤ 1152921504606846976 ∧ X3 ≤ 1152921504606846976) (hB:BoundR 1152921504606846976 L) :
  Calls Tryz.prog 21 #[.slice la n lc,.agg #[.string P,.int .i64 (X1:Int),.int .i64 (X2:Int),.int .i64 (X3:Int)]] w fun e w' => ∃ v,e = .returned v ∧ (∃ a c,v = .slice a (addR L ⟨P,X1,X2,X3⟩).length c) ∧ SegR w' v (addR L ⟨P,X1,X2,X3⟩) ∧ Below w.heap.size w w':=by
 obtain ⟨x,HX⟩:∃ x:SR,Hid (x = ⟨P,X1,X2,X3⟩):=⟨_,rfl⟩
 rw [← HX.out]
 have HL:=hid hL
 have HN:=hid hn
 have HBD:=hid hB
 obtain ⟨Q,HQ⟩:∃ Q:Ending → World → Prop,Hid (Q = fun e w' => ∃ v,e = .returned v ∧ (∃ a c,v = .slice a (addR L x).length c) ∧ SegR w' v (addR L x) ∧ Below w.heap.size w w'):=⟨_,rfl⟩
 rw [← HQ.out]
 obtain ⟨XB,HXB⟩:∃ b,Hid (b = w.heap.size):=⟨_,rfl⟩
 obtain ⟨W1,HW1⟩:∃ W,Hid (W = w.alloc (.cells #[.string P,.int .i64 (X1:Int),.int .i64 (X2:Int),.int .i64 (X3:Int)] 41)):=⟨_,rfl⟩
 have hb1:Below w.heap.size w W1:=by rw [HW1.out];exact (Below.refl _ _).alloc (Nat.le_refl _) _
 have HB1:=hid hb1
 have HK1:Hid (Blk W1 XB [.string P,.int .i64 (X1:Int),.int .i64 (X2:Int),.int .i64 (X3:Int)] 41):=by rw [HW1.out,HXB.out];exact Blk.new w [.string P,.int .i64 (X1:Int),.int .i64 (X2:Int),.int .i64 (X3:Int)] _
 obtain ⟨B0,HB0⟩:∃ b,Hid (b = W1.heap.size):=⟨_,rfl⟩
 have HFIN:Hid (∀ (wr:World) (v:Value) (O:List SR),RowsOwn srP 41 4 0 B0 wr v O → Below B0 W1 wr → O = addR L x → Q (.returned v) wr):=fun wr v O hv hb he => by
  rw [HQ.out]
  rw [HB0.out] at hb hv
  rw [he] at hv
  exact ⟨v,rfl,hv.form,rowsOwn_segT hv (by have:=addR_len L x;have:=HN.out;omega) (Below.refl _ _),HB1.out.trans (hb.mono HB1.out.size)⟩
 have HSZ:Hid (∀ W,Below B0 W1 W → B0 ≤ W.heap.size):=fun W h => by rw [HB0.out];exact h.size
 clear hL hn hB hb1
 go_enter Tryz.func21,Tryz.ntmps21
 go_wp2_with fail
 rw [← HW1.out,← HXB.out]
 go_loopw [5,6,7] (fun v5 v6 v7 wr => ∃ (k:Nat) (O:List SR) (on:Nat) (b:Bool) (oa:Option Addr) (oc:Nat),v5 = .slice oa on oc ∧ v6 = .bool b ∧ v7 = .int .i64 (k:Int) ∧ k ≤ n ∧ Hid ((L.take k).foldl (addStep x) ([],false) = (O,b) ∧ on = O.length ∧ RowsOwn srP 41 4 0 B0 wr (.slice oa on oc) O ∧ Below B0 W1 wr)) (fun _ _ v7 _ => n - (intOf v7).toNat)
 case atStart => exact ⟨0,[],0,false,none,0,rfl,rfl,rfl,by omega,hid ⟨rfl,rfl,RowsOwn.nil _ _ _ _ _ _,by rw [HB0.out];exact Below.refl _ _⟩⟩
 case round =>
  obtain ⟨k,O,on,b,oa,oc,rfl,rfl,rfl,hk,HJ⟩:=hrel
  obtain ⟨hj1,hj2,hj3,hj4⟩:=HJ.out
  have hon:on ≤ 1073741825:=by
   have h:=(addStep_len x (L.take k) ([],false)).1
   rw [hj1] at h
   simp only [List.length_nil,List.length_take,Bool.false_eq_true,if_false] at h
   have:=HN.out
   omega
  have hbz:Below W1.heap.size W1 wr:=by rw [← HB0.out];exact hj4
  have hbw:Below w.heap.size w wr:=HB1.out.trans (hbz.mono HB1.out.size)
  by_cases hlt:k < n
  ·
   obtain ⟨xr,hxr⟩:∃ r,L[k]? = some r:=⟨_,List.getElem?_eq_getElem (by rw [← HN.out];exact hlt)⟩
   have hbd:=HBD.out xr (List.mem_of_getElem? hxr)
   obtain ⟨a',cap',he,hat⟩:=(HL.out.below HB1.out).open
   obtain ⟨hae,-,hce⟩:=Value.slice.inj he
   subst hae
   subst hce
   obtain ⟨lb,lo,rfl,l0,l1,l2,l3⟩:=hat k xr hxr
   have HSTEP:Hid ((L.take (k + 1)).foldl (addStep x) ([],false) = addStep x (O,b) xr):=by
    rw [Hid,List.take_add_one,hxr,List.foldl_append,hj1];rfl
   obtain ⟨xr0,HXR⟩:∃ y:SR,Hid (y = xr):=⟨_,rfl⟩
   rw [← HXR.out] at HSTEP
   obtain ⟨p,r1,r2,r3⟩:=xr
   simp only at l0 l1 l2 l3 hbd
   have HXRP:Hid (xr0.path = p):=by rw [Hid,HXR.out]
   have hix:=index_run Tryz.underlying38 size_rrow (rfl:some (⟨lb,lo,none⟩:Addr) = some ⟨lb,lo,none⟩) k hlt (cap:=lc)
   have HCE:Hid (∀ W,Below B0 W1 W → (W.cell? ⟨lb,lo + k * 4,none⟩ = some (.string p) ∧ W.cell? ⟨lb,lo + k * 4 + 1,none⟩ = some (.int .i64 (r1:Int)) ∧ W.cell? ⟨lb,lo + k * 4 + 2,none⟩ = some (.int .i64 (r2:Int)) ∧ W.cell? ⟨lb,lo + k * 4 + 3,none⟩ = some (.int .i64 (r3:Int)) ∧ W.cell? ⟨XB,0,none⟩ = some (.string P) ∧ W.cell? ⟨XB,1,none⟩ = some (.int .i64 (X1:Int)) ∧ W.cell? ⟨XB,2,none⟩ = some (.int .i64 (X2:Int)) ∧ W.cell? ⟨XB,3,none⟩ = some (.int .i64 (X3:Int))) ∧ lb < W.heap.size ∧ XB < W.heap.size):=fun W hW => by
    rw [HB0.out] at hW
    have hkw:=below_keeps hW
    have hkx:=HK1.out.below hW
    have y0:=hkx.cell 0 _ rfl
    have y1:=hkx.cell 1 _ rfl
    have y2:=hkx.cell 2 _ rfl
    have y3:=hkx.cell 3 _ rfl
    exact ⟨⟨hkw _ _ l0,hkw _ _ l1,hkw _ _ l2,hkw _ _ l3,y0,y1,y2,y3⟩,World.block_lt_of_cell? W _ (hkw _ _ l0),hkx.lt⟩
   clear l0 l1 l2 l3
   obtain ⟨g,HG⟩:∃ g:Bool,Hid (g = (!b && decide (lessS P p))):=⟨_,rfl⟩
   obtain ⟨WO,HWO⟩:∃ W,Hid (W = wr):=⟨_,rfl⟩
   obtain ⟨b1,HB1B⟩:∃ b1:Bool,Hid (b1 = if g = true then true else b):=⟨_,rfl⟩
   obtain ⟨O1,HO1⟩:∃ o:List SR,Hid (o = if g = true then O ++ [x] else O):=⟨_,rfl⟩
   have HADD:Hid (addStep x (O,b) xr0 = if p = P then (O1 ++ [⟨p,r1 + X1,r2 + X2,r3 + X3⟩],true) else (O1 ++ [⟨p,r1,r2,r3⟩],b1)):=by
    have hgc:(b = false ∧ lessS P p) ↔ g = true:=by rw [HG.out];cases b <;> simp
    rw [Hid,HX.out,HXR.out,HO1.out,HB1B.out,HX.out]
    unfold addStep
    simp only [hgc]
   have HOW:=hid (And.intro hj2 (And.intro hj3 hj4))
   obtain ⟨⟨l0,l1,l2,l3,x0,x1,x2,x3⟩,hll,xl⟩:=HCE.out wr hj4
   clear hj1 hj2 hj3 hj4 hbz hbw he hat hxr HJ
   go_upto_region 6 with fail
   go_cut [26] from 15 to 25 (fun s26 wx => s26 = .bool g ∧ Hid (Below wr.heap.size wr wx))
   case first =>
    cases b with
    | true =>
     have HE:Hid (g = false):=by rw [Hid,HG.out];rfl
     go_quiet (fail)
     go_wp2_with fail
     go_meet
     case rel => exact ⟨by rw [HE.out],hid (below_drewN (Below.refl _ _) _)⟩
    | false =>
     have HE:Hid ((!Op.bytesLess p.toList P.toList && !p.toList == P.toList) = g):=by rw [Hid,HG.out,gt_bytes];rfl
     go_quiet (fail)
     go_wp2_with fail
     go_meet
     case rel => exact ⟨by rw [HE.out],hid (below_drewN (Below.refl _ _) _)⟩
   case rest =>
   obtain ⟨rfl,HC⟩:=hcut
   obtain ⟨WA,rfl⟩:∃ W,W = wc:=⟨_,rfl⟩
   have HOA:Hid (on = O.length ∧ RowsOwn srP 41 4 0 B0 WA (.slice oa on oc) O ∧ Below B0 W1 WA):=by
    have h:=HOW.out
    have h1:=HSZ.out _ h.2.2
    exact ⟨h.1,h.2.1.below HC.out,h.2.2.trans (HC.out.mono h1)⟩
   clear l0 l1 l2 l3 x0 x1 x2 x3 hll xl
   obtain ⟨⟨l0,l1,l2,l3,x0,x1,x2,x3⟩,hll,xl⟩:=HCE.out WA HOA.out.2.2
   have HBS:Hid (B0 ≤ WA.heap.size):=HSZ.out _ HOA.out.2.2
   go_upto_if 26 with fail
   go_cut [5,6] from 27 to 30 (fun s5 s6 wx => ∃ (on1:Nat) (oa1:Option Addr) (oc1:Nat),s5 = .slice oa1 on1 oc1 ∧ s6 = .bool b1 ∧ on1 ≤ 1073741826 ∧ Hid (on1 = O1.length ∧ RowsOwn srP 41 4 0 B0 wx (.slice oa1 on1 oc1) O1 ∧ Below B0 W1 wx))
   case first =>
    cases g with
    | true =>
     obtain ⟨a9,c9,w9,hr9,hO9,hb9⟩:=row_push HOA.out.2.1 HOA.out.1 HBS.out (by omega) P X1 X2 X3 rfl rfl rfl
     have HE:Hid (b1 = true ∧ O1 = O ++ [⟨P,X1,X2,X3⟩]):=by rw [Hid,HB1B.out,HO1.out,HX.out];exact ⟨rfl,rfl⟩
     have HR9:=hid hr9
     have HO9:=hid (And.intro hO9 (HOA.out.2.2.trans hb9))
     clear hr9 hO9 hb9 l0 l1 l2 l3 hll hix
     go_wp2_with (at_builtin;refine wpList_append_eq rfl _ _ _ rfl _ _ rfl rfl HR9.out ?_)
     go_meet
     case rel => exact ⟨on + 1,a9,c9,rfl,by rw [HE.out.1],by omega,by rw [Hid,HE.out.2];exact ⟨by rw [List.length_append,← HOA.out.1];rfl,HO9.out.1,HO9.out.2⟩⟩
    | false =>
     have HE:Hid (b1 = b ∧ O1 = O):=by rw [Hid,HB1B.out,HO1.out];exact ⟨rfl,rfl⟩
     go_wp2_with fail
     go_meet
     case rel => exact ⟨on,oa,oc,rfl,by rw [HE.out.1],by omega,by rw [Hid,HE.out.2];exact HOA.out⟩
   case rest =>
   obtain ⟨on1,oa1,oc1,rfl,rfl,hon1,HC2⟩:=hcut
   obtain ⟨WB,rfl⟩:∃ W,W = wc:=⟨_,rfl⟩
   clear l0 l1 l2 l3 x0 x1 x2 x3 hll xl
   obtain ⟨⟨l0,l1,l2,l3,x0,x1,x2,x3⟩,hll,xl⟩:=HCE.out WB HC2.out.2.2
   obtain ⟨W10,HW10⟩:∃ W,Hid (W = WB.alloc (.cells #[.string p,.int .i64 (r1:Int),.int .i64 (r2:Int),.int .i64 (r3:Int)] 41)):=⟨_,rfl⟩
   obtain ⟨RB,HRB⟩:∃ b,Hid (b = WB.heap.size):=⟨_,rfl⟩
   have hb10:Below WB.heap.size WB W10:=by rw [HW10.out];exact (Below.refl _ _).alloc (Nat.le_refl _) _
   have hk10:Blk W10 RB [.string p,.int .i64 (r1:Int),.int .i64 (r2:Int),.int .i64 (r3:Int)] 41:=by rw [HW10.out,HRB.out];exact Blk.new WB [.string p,.int .i64 (r1:Int),.int .i64 (r2:Int),.int .i64 (r3:Int)] _
   have HB10:=hid hb10
   have HK10:=hid hk10
   have HBSB:Hid (B0 ≤ WB.heap.size):=HSZ.out _ HC2.out.2.2
   clear hb10 hk10
   go_upto_region 10 with fail
   rw [← HW10.out,← HRB.out]
   clear l0 l1 l2 l3 x0 x1 x2 x3 hll xl hix
   have hB10:Below B0 W1 W10:=HC2.out.2.2.trans (HB10.out.mono HBSB.out)
   obtain ⟨⟨-,-,-,-,x0,x1,x2,x3⟩,-,xl⟩:=HCE.out W10 hB10
   have k0:=HK10.out.cell 0 _ rfl
   have k1:=HK10.out.cell 1 _ rfl
   have k2:=HK10.out.cell 2 _ rfl
   have k3:=HK10.out.cell 3 _ rfl
   have kl:=HK10.out.lt
   have HBB10:=hid hB10
   have HS10:Hid (B0 ≤ W10.heap.size):=HSZ.out _ hB10
   clear hB10
   by_cases hp:p = P
   ·
    subst hp
    have y0:=HK10.out.free 0
    have y1:=HK10.out.free 1
    have y2:=HK10.out.free 2
    have y3:=HK10.out.free 3
    obtain ⟨hx1,hx2,hx3⟩:=hx
    obtain ⟨hd1,hd2,hd3⟩:=hbd
    obtain ⟨W11,HW11⟩:∃ W,Hid (W = (((W10.setCell ⟨RB,0,none⟩ (.string p)).setCell ⟨RB,1,none⟩ (.int .i64 ((r1:Int) + X1))).setCell ⟨RB,2,none⟩ (.int .i64 ((r2:Int) + X2))).setCell ⟨RB,3,none⟩ (.int .i64 ((r3:Int) + X3))):=⟨_,rfl⟩
    have hk11:Blk W11 RB [.string p,.int .i64 ((r1:Int) + X1),.int .i64 ((r2:Int) + X2),.int .i64 ((r3:Int) + X3)] 41:=by
     rw [HW11.out]
     exact (((HK10.out.set 0 (.string p)).set 1 (.int .i64 ((r1:Int) + X1))).set 2 (.int .i64 ((r2:Int) + X2))).set 3 (.int .i64 ((r3:Int) + X3))
    have hb11:Below WB.heap.size WB W11:=by
     rw [HW11.out]
     have h:=HB10.out
     have h2:=HRB.out
     (repeat (first | with_reducible exact Below.refl _ _ | with_reducible refine Below.setCell ?_ (by first | omega | (simp;omega) | (simp;done)) _ | with_reducible refine Below.alloc ?_ (by first | omega | (simp;omega) | (simp;done)) _ | with_reducible refine below_drewN ?_ _ | with_reducible refine Below.drew ?_))
     exact h
    have hO11:=HC2.out.2.1.below hb11
    obtain ⟨a9,c9,w9,hr9,hO9,hb9⟩:=row_push hO11 HC2.out.1 (Nat.le_trans HBSB.out hb11.size) (by omega) p (r1 + X1) (r2 + X2) (r3 + X3) (u1:=(r1:Int) + X1) (u2:=(r2:Int) + X2) (u3:=(r3:Int) + X3) (by omega) (by omega) (by omega)
    have HR9:=hid hr9
    have HNEW:Hid (RowsOwn srP 41 4 0 B0 w9 (.slice a9 (on1 + 1) c9) (O1 ++ [⟨p,r1 + X1,r2 + X2,r3 + X3⟩]) ∧ Below B0 W1 w9 ∧ (L.take (k + 1)).foldl (addStep x) ([],false) = (O1 ++ [⟨p,r1 + X1,r2 + X2,r3 + X3⟩],true) ∧ on1 + 1 = (O1 ++ [(⟨p,r1 + X1,r2 + X2,r3 + X3⟩:SR)]).length):=by
     refine ⟨hO9,(HC2.out.2.2.trans (hb11.mono HBSB.out)).trans hb9,?_,by rw [List.length_append,← HC2.out.1];rfl⟩
     rw [HSTEP.out,HADD.out,if_pos rfl]
    have HK11:=hid hk11
    clear hr9 hO9 hb9 hO11 hb11 hk11
    go_upto_region 12 with fail
    rw [← HW11.out]
    clear x0 x1 x2 x3 xl k0 k1 k2 k3 kl y0 y1 y2 y3 hx1 hx2 hx3 hd1 hd2 hd3
    have k0:=HK11.out.cell 0 _ rfl
    have k1:=HK11.out.cell 1 _ rfl
    have k2:=HK11.out.cell 2 _ rfl
    have k3:=HK11.out.cell 3 _ rfl
    have kl:=HK11.out.lt
    go_wp2_with (at_builtin;refine wpList_append_eq rfl _ _ _ rfl _ _ rfl rfl HR9.out ?_)
    go_roundw
    case rel => exact ⟨k + 1,_,on1 + 1,true,a9,c9,rfl,rfl,by go_num,hlt,hid ⟨HNEW.out.2.2.1,HNEW.out.2.2.2,HNEW.out.1,HNEW.out.2.1⟩⟩
    case measure => simp [intOf];omega
   ·
    have e5:(p.toList == P.toList) = false:=by
     cases hb:(p.toList == P.toList) with
     | false => rfl
     | true => exact absurd ((toList_inj _ _).1 (eq_of_beq hb)) hp
    have e6:¬ p.toList = P.toList:=fun h => hp ((toList_inj _ _).1 h)
    obtain ⟨a9,c9,w9,hr9,hO9,hb9⟩:=row_push (HC2.out.2.1.below HB10.out) HC2.out.1 HS10.out (by omega) p r1 r2 r3 rfl rfl rfl
    have HR9:=hid hr9
    have HNEW:Hid (RowsOwn srP 41 4 0 B0 w9 (.slice a9 (on1 + 1) c9) (O1 ++ [⟨p,r1,r2,r3⟩]) ∧ Below B0 W1 w9 ∧ (L.take (k + 1)).foldl (addStep x) ([],false) = (O1 ++ [⟨p,r1,r2,r3⟩],b1) ∧ on1 + 1 = (O1 ++ [(⟨p,r1,r2,r3⟩:SR)]).length):=by
     refine ⟨hO9,HBB10.out.trans hb9,?_,by rw [List.length_append,← HC2.out.1];rfl⟩
     rw [HSTEP.out,HADD.out,if_neg hp]
    clear hr9 hO9 hb9 hp
    go_wp2_with (at_builtin;refine wpList_append_eq rfl _ _ _ rfl _ _ rfl rfl HR9.out ?_)
    go_roundw
    case rel => exact ⟨k + 1,_,on1 + 1,b1,a9,c9,rfl,rfl,by go_num,hlt,hid ⟨HNEW.out.2.2.1,HNEW.out.2.2.2,HNEW.out.1,HNEW.out.2.1⟩⟩
    case measure => simp [intOf];omega
  ·
   obtain rfl:k = n:=by omega
   have hfull:L.take k = L:=List.take_of_length_le (by rw [← HN.out];exact Nat.le_refl _)
   rw [hfull] at hj1
   have hkx:=HK1.out.below hbz
   have x0:=hkx.cell 0 _ rfl
   have x1:=hkx.cell 1 _ rfl
   have x2:=hkx.cell 2 _ rfl
   have x3:=hkx.cell 3 _ rfl
   have xl:=hkx.lt
   cases b with
   | true =>
    have HE:Hid (Q (.returned (.slice oa on oc)) wr):=HFIN.out wr _ O hj3 hj4 (by unfold addR;rw [hj1,if_pos rfl])
    clear hj1 hj2 hj3 hj4 hbz hbw hkx hfull x0 x1 x2 x3 xl
    go_wp2_with fail
    exact HE.out
   | false =>
    obtain ⟨a9,c9,w9,hr9,hO9,hb9⟩:=row_push hj3 hj2 (HSZ.out _ hj4) (by omega) P X1 X2 X3 rfl rfl rfl
    have HR9:=hid hr9
    have HE:Hid (Q (.returned (.slice a9 (on + 1) c9)) w9):=HFIN.out w9 _ _ hO9 (hj4.trans hb9) (by unfold addR;rw [hj1,if_neg (by simp),HX.out])
    clear hj1 hj2 hj3 hj4 hbz hbw hkx hfull hr9 hO9 hb9
    go_wp2_with (at_builtin;refine wpList_append_eq rfl _ _ _ rfl _ _ rfl rfl HR9.out ?_)
    exact HE.out
end Go.Proofs.YtphkmpnahnakaaaGreat
namespace Go.Proofs.YtphkmpnahnakaaaGreat
open Go.RowKit
def isSub (fs:List Fld) (k:Int):Prop:=0 ≤ k ∧ (fs.getD k.toNat .zero).kind = 17
instance (fs:List Fld) (k:Int):Decidable (isSub fs k):=inferInstanceAs (Decidable (_ ∧ _))
def depL (s:List Mes):Nat → Int → List UInt8 → Nat
 | 0,_,_ => 0
 | d + 1,m,l => ((arecs (s.getD m.toNat .zero).fields l).map fun x => if isSub (s.getD m.toNat .zero).fields x.k then depL s d ((s.getD m.toNat .zero).fields.getD x.k.toNat .zero).of x.val + 1 else 0).foldl max 0
def atX (sub:Int → List UInt8 → Nat) (fs:List Fld) (x:AR):Nat:=if isSub fs x.k then sub (fs.getD x.k.toNat .zero).of x.val else 0
def atC (s:List Mes):Nat → Int → List UInt8 → Nat
 | 0,_,_ => 1
 | i + 1,m,l => ((arecs (s.getD m.toNat .zero).fields l).map (atX (atC s i) (s.getD m.toNat .zero).fields)).sum
theorem sub_valid {s:List Mes} {d m:Nat} {l:List UInt8} (hv:(vmsg s d m l).2 = 0) {x:AR} (hx:x ∈ arecs (s.getD m .zero).fields l) (h:isSub (s.getD m .zero).fields x.k) :
  ∃ d',d = d' + 1 ∧ (vmsg s d' ((s.getD m .zero).fields.getD x.k.toNat .zero).of.toNat x.val).2 = 0:=by
 unfold arecs at hx
 obtain ⟨y,hy,rfl⟩:=List.mem_map.1 hx
 obtain ⟨k,hk⟩:∃ k:Nat,y.k = k:=⟨y.k.toNat,(Int.toNat_of_nonneg h.1).symm⟩
 have hk2:(arOf l y).k = k:=hk
 have h17:=h.2
 rw [hk2,Int.toNat_natCast] at h17 ⊢
 exact ((vall_ok hv).2 y hy).sub hk h17
theorem vval_deep {s:List Mes} {d d':Nat} {fs:List Fld} {l:List UInt8} {v:Rec × Int × Bool × Nat} (hr:v.2.2.1 = true → ¬ (fs.getD v.2.1.toNat .zero).kind = 17) (h:(vval (vrec s d) (decide (d = 0)) fs l v).2 = 0) :
  (vval (vrec s d') (decide (d' = 0)) fs l v).2 = 0 ↔ (isSub fs v.2.1 → ∃ d'',d' = d'' + 1 ∧ (vmsg s d'' (fs.getD v.2.1.toNat .zero).of.toNat (part l v.1.at' v.1.to)).2 = 0):=by
 unfold vval at h ⊢
 by_cases h1:v.2.1 < 0
 ·
  rw [if_pos h1]
  exact ⟨fun _ hs => absurd hs.1 (by omega),fun _ => rfl⟩
 rw [if_neg h1] at h ⊢
 simp only at h ⊢
 by_cases h2:v.2.2.1 = true
 ·
  rw [if_pos h2] at h ⊢
  exact ⟨fun _ hs => absurd hs.2 (hr h2),fun _ => h⟩
 rw [if_neg h2] at h ⊢
 by_cases h3:(fs.getD v.2.1.toNat .zero).kind = 15
 ·
  rw [if_pos h3] at h ⊢
  exact ⟨fun _ hs => (by have:=hs.2;omega),fun _ => h⟩
 rw [if_neg h3] at h ⊢
 by_cases h4:(fs.getD v.2.1.toNat .zero).kind = 17
 ·
  rw [if_pos h4]
  cases d' with
  | zero =>
   simp only [decide_true,if_true]
   constructor
   ·
    intro h5;exact absurd h5 (by decide)
   ·
    intro h5
    obtain ⟨_,h6,_⟩:=h5 ⟨by omega,h4⟩
    omega
  | succ d'' =>
   rw [if_neg (by simp)]
   constructor
   ·
    intro h5 _;exact ⟨d'',rfl,h5⟩
   ·
    intro h5
    obtain ⟨e,h6,h7⟩:=h5 ⟨by omega,h4⟩
    obtain rfl:d'' = e:=by omega
    exact h7
 ·
  rw [if_neg h4]
  exact ⟨fun _ hs => absurd hs.2 h4,fun _ => rfl⟩
theorem vfrom_deep {s:List Mes} {d d' m:Nat} {l:List UInt8}:∀ (fuel i:Nat),l.length ≤ fuel + i → (vfrom s d m l i).2 = 0 →
  ((vfrom s d' m l i).2 = 0 ↔ ∀ x ∈ (vallGo (s.getD m .zero).fields l fuel i).1,isSub (s.getD m .zero).fields x.k → ∃ d'',d' = d'' + 1 ∧ (vmsg s d'' ((s.getD m .zero).fields.getD x.k.toNat .zero).of.toNat (vbytes l x)).2 = 0)
 | 0,i,hn,h => by
  rw [vfrom_at,if_pos (by omega)]
  exact ⟨fun _ x hx => by simp [vallGo] at hx,fun _ => rfl⟩
 | n + 1,i,hn,h => by
  have hst:∀ d'',vfrom s d'' m l i = _:=fun d'' => vfrom_at s d'' m l i
  rw [vallGo]
  by_cases hi:l.length ≤ i
  ·
   rw [if_pos hi,hst,if_pos hi]
   exact ⟨fun _ x hx => by simp at hx,fun _ => rfl⟩
  rw [hst,if_neg hi] at h
  rw [if_neg hi]
  by_cases hc:(vlook (s.getD m .zero).fields l i).2.2.2 = 0
  ·
   have hcc:¬ (vlook (s.getD m .zero).fields l i).2.2.2 ≠ 0:=fun h => h hc
   rw [if_neg hcc] at h
   rw [if_neg hcc]
   by_cases hv:(vval (vrec s d) (decide (d = 0)) (s.getD m .zero).fields l (vlook (s.getD m .zero).fields l i)).2 = 0
   ·
    rw [if_neg (fun h => h hv)] at h
    have hto:=vlook_to _ _ _ hc
    have he:vlook (s.getD m .zero).fields l i = ((vlook (s.getD m .zero).fields l i).1,(vlook (s.getD m .zero).fields l i).2.1,(vlook (s.getD m .zero).fields l i).2.2.1,0):=by rw [← hc]
    have hok:ViewOk s d m l ⟨(vlook (s.getD m .zero).fields l i).1,(vlook (s.getD m .zero).fields l i).2.1,(vlook (s.getD m .zero).fields l i).2.2.1⟩:=⟨⟨i,he⟩,by rw [← he];exact hv⟩
    have hrun:(vlook (s.getD m .zero).fields l i).2.2.1 = true → ¬ ((s.getD m .zero).fields.getD (vlook (s.getD m .zero).fields l i).2.1.toNat .zero).kind = 17:=by
     intro hr h17
     obtain ⟨-,-,-,h2⟩:=hok.facts
     rcases h2 with ⟨-,h2⟩ | ⟨k',h2,-,h3,-⟩
     ·
      exact absurd (h2.symm.trans hr) (by simp)
     ·
      have h4:=(h3 hr).2
      have h2':(vlook (s.getD m .zero).fields l i).2.1 = (k':Int):=h2
      rw [h2',Int.toNat_natCast] at h17
      rw [h17] at h4
      simp [knumber] at h4
    have hd:=vval_deep (d':=d') hrun hv
    have hrec:=vfrom_deep (d':=d') n (vlook (s.getD m .zero).fields l i).1.to (by omega) h
    have hz:=(views_ok s d m l n _ (by omega) h).1
    simp only
    rw [if_neg (fun h => h hz)]
    simp only
    have hvf:(vfrom s d' m l i).2 = 0 ↔ (vval (vrec s d') (decide (d' = 0)) (s.getD m .zero).fields l (vlook (s.getD m .zero).fields l i)).2 = 0 ∧ (vfrom s d' m l (vlook (s.getD m .zero).fields l i).1.to).2 = 0:=by
     rw [hst,if_neg hi,if_neg hcc]
     by_cases hv':(vval (vrec s d') (decide (d' = 0)) (s.getD m .zero).fields l (vlook (s.getD m .zero).fields l i)).2 = 0
     ·
      rw [if_neg (fun h => h hv')]
      exact ⟨fun h => ⟨hv',h⟩,fun h => h.2⟩
     ·
      rw [if_pos hv']
      exact ⟨fun h => absurd h hv',fun h => absurd h.1 hv'⟩
    rw [hvf,hd,hrec]
    constructor
    ·
     rintro ⟨h5,h6⟩ x hx
     rcases List.mem_cons.1 hx with rfl | hx
     ·
      exact h5
     ·
      exact h6 x hx
    ·
     intro h5
     exact ⟨h5 _ (List.mem_cons_self ..),fun x hx => h5 x (List.mem_cons_of_mem _ hx)⟩
   ·
    rw [if_pos hv] at h;exact absurd h hv
  ·
   rw [if_pos hc] at h;exact absurd h hc
theorem vmsg_deep {s:List Mes} {d m:Nat} {l:List UInt8} (h:(vmsg s d m l).2 = 0) (d':Nat) :
  (vmsg s d' m l).2 = 0 ↔ ∀ x ∈ arecs (s.getD m .zero).fields l,isSub (s.getD m .zero).fields x.k → ∃ d'',d' = d'' + 1 ∧ (vmsg s d'' ((s.getD m .zero).fields.getD x.k.toNat .zero).of.toNat x.val).2 = 0:=by
 rw [vmsg_from] at h
 rw [vmsg_from,vfrom_deep (d':=d') l.length 0 (by omega) h]
 unfold arecs
 constructor
 ·
  intro h1 x hx
  obtain ⟨y,hy,rfl⟩:=List.mem_map.1 hx
  exact h1 y hy
 ·
  intro h1 x hx
  exact h1 (arOf l x) (List.mem_map.2 ⟨x,hx,rfl⟩)
theorem foldl_max_le {l:List Nat} {a b:Nat}:l.foldl max a ≤ b ↔ a ≤ b ∧ ∀ x ∈ l,x ≤ b:=by
 induction l generalizing a with
 | nil => simp
 | cons y r ih =>
  rw [List.foldl_cons,ih]
  constructor
  ·
   rintro ⟨h1,h2⟩
   refine ⟨by omega,fun x hx => ?_⟩
   rcases List.mem_cons.1 hx with rfl | hx
   ·
    omega
   ·
    exact h2 x hx
  ·
   rintro ⟨h1,h2⟩
   have:=h2 y (by simp)
   exact ⟨by omega,fun x hx => h2 x (by simp [hx])⟩
theorem valid_depth {s:List Mes}:∀ (d m:Nat) (l:List UInt8),(vmsg s d m l).2 = 0 → ∀ d',(vmsg s d' m l).2 = 0 ↔ depL s d (m:Int) l ≤ d'
 | 0,m,l,h,d' => by
  rw [vmsg_deep h d',depL]
  exact ⟨fun _ => Nat.zero_le _,fun _ x hx hs => by
   obtain ⟨_,h1,_⟩:=sub_valid h hx hs
   omega⟩
 | d + 1,m,l,h,d' => by
  rw [vmsg_deep h d',depL,Int.toNat_natCast,foldl_max_le]
  constructor
  ·
   intro h1
   refine ⟨Nat.zero_le _,fun n hn => ?_⟩
   obtain ⟨x,hx,rfl⟩:=List.mem_map.1 hn
   by_cases hs:isSub (s.getD m .zero).fields x.k
   ·
    rw [if_pos hs]
    obtain ⟨d'',e1,e2⟩:=h1 x hx hs
    obtain ⟨d3,e3,e4⟩:=sub_valid h hx hs
    obtain rfl:d = d3:=by omega
    by_cases ho:0 ≤ ((s.getD m .zero).fields.getD x.k.toNat .zero).of
    ·
     obtain ⟨o,ho⟩:∃ o:Nat,((s.getD m .zero).fields.getD x.k.toNat .zero).of = o:=⟨_,(Int.toNat_of_nonneg ho).symm⟩
     rw [ho,Int.toNat_natCast] at e2 e4
     rw [ho]
     have:=(valid_depth d o x.val e4 d'').1 e2
     omega
    ·
     have hz:((s.getD m .zero).fields.getD x.k.toNat .zero).of.toNat = 0:=by omega
     rw [hz] at e2 e4
     have h5:=(valid_depth d 0 x.val e4 d'').1 e2
     have h6:depL s d ((s.getD m .zero).fields.getD x.k.toNat .zero).of x.val = depL s d ((0:Nat):Int) x.val:=by
      cases d with
      | zero => rfl
      | succ d => rw [depL,depL,hz,Int.toNat_natCast]
     omega
   ·
    rw [if_neg hs];exact Nat.zero_le _
  ·
   rintro ⟨-,h1⟩ x hx hs
   have h2:=h1 _ (List.mem_map.2 ⟨x,hx,rfl⟩)
   rw [if_pos hs] at h2
   obtain ⟨d3,e3,e4⟩:=sub_valid h hx hs
   obtain rfl:d = d3:=by omega
   refine ⟨d' - 1,by omega,?_⟩
   by_cases ho:0 ≤ ((s.getD m .zero).fields.getD x.k.toNat .zero).of
   ·
    obtain ⟨o,ho⟩:∃ o:Nat,((s.getD m .zero).fields.getD x.k.toNat .zero).of = o:=⟨_,(Int.toNat_of_nonneg ho).symm⟩
    rw [ho,Int.toNat_natCast] at e4 ⊢
    rw [ho] at h2
    exact (valid_depth d o x.val e4 _).2 (by omega)
   ·
    have hz:((s.getD m .zero).fields.getD x.k.toNat .zero).of.toNat = 0:=by omega
    rw [hz] at e4 ⊢
    have h6:depL s d ((s.getD m .zero).fields.getD x.k.toNat .zero).of x.val = depL s d ((0:Nat):Int) x.val:=by
     cases d with
     | zero => rfl
     | succ d => rw [depL,depL,hz,Int.toNat_natCast]
    exact (valid_depth d 0 x.val e4 _).2 (by omega)
theorem getD_bumpD (ds:List Int) (k j:Nat):(bumpD ds k).getD j 0 = ds.getD j 0 + (if j = k then 1 else 0):=by
 have hpad:∀ j,(padD ds k).getD j 0 = ds.getD j 0:=fun j => by
  unfold padD
  rw [List.getD_eq_getElem?_getD,List.getD_eq_getElem?_getD]
  by_cases h:j < ds.length
  ·
   rw [List.getElem?_append_left h]
  ·
   rw [List.getElem?_append_right (by omega),List.getElem?_eq_none (by omega:ds.length ≤ j)]
   by_cases h2:j - ds.length < k + 1 - ds.length
   ·
    rw [List.getElem?_replicate,if_pos h2];rfl
   ·
    rw [List.getElem?_replicate,if_neg h2]
 unfold bumpD
 by_cases h:j = k
 ·
  subst h
  rw [if_pos rfl,← hpad j,List.getD_eq_getElem?_getD,List.getElem?_set_self (by rw [padD_len];omega)]
  rfl
 ·
  rw [if_neg h,← hpad j,List.getD_eq_getElem?_getD,List.getElem?_set_ne (by omega),List.getD_eq_getElem?_getD]
  omega
theorem dmsg_at {s:List Mes}:∀ (d m:Nat) (l:List UInt8),(vmsg s d m l).2 = 0 → ∀ (k:Nat) (ds:List Int),(dmsg s (d + 1) (m:Int) l k ds).length = max ds.length (k + depL s d (m:Int) l + 1) ∧
  ∀ j,(dmsg s (d + 1) (m:Int) l k ds).getD j 0 = ds.getD j 0 + (if k ≤ j then (atC s (j - k) (m:Int) l:Int) else 0):=by
 intro d
 induction d with
 | zero =>
  intro m l h k ds
  have hnone:∀ x ∈ arecs (s.getD m .zero).fields l,¬ isSub (s.getD m .zero).fields x.k:=fun x hx hs => by
   obtain ⟨_,h1,_⟩:=sub_valid h hx hs
   omega
  have hfold:∀ (xs:List AR),(∀ x ∈ xs,¬ isSub (s.getD m .zero).fields x.k) → ∀ es,xs.foldl (subD (fun o v ds => dmsg s 0 o v (k + 1) ds) (s.getD m .zero).fields) es = es:=by
   intro xs
   induction xs with
   | nil => intro _ es;rfl
   | cons x r ih =>
    intro h1 es
    have hx:subD (fun o v ds => dmsg s 0 o v (k + 1) ds) (s.getD m .zero).fields es x = es:=by
     unfold subD
     exact if_neg (h1 x (by simp))
    rw [List.foldl_cons,hx]
    exact ih (fun y hy => h1 y (by simp [hy])) es
  rw [dmsg,Int.toNat_natCast,hfold _ hnone,bumpD_len,depL]
  refine ⟨rfl,fun j => ?_⟩
  rw [getD_bumpD]
  congr 1
  by_cases hj:j = k
  ·
   subst hj
   rw [if_pos rfl,if_pos (Nat.le_refl _),Nat.sub_self,atC]
   rfl
  ·
   rw [if_neg hj]
   by_cases hk:k ≤ j
   ·
    rw [if_pos hk]
    obtain ⟨i,hi⟩:∃ i,j - k = i + 1:=⟨j - k - 1,by omega⟩
    rw [hi,atC,Int.toNat_natCast]
    have:((arecs (s.getD m .zero).fields l).map (atX (atC s i) (s.getD m .zero).fields)).sum = 0:=by
     have hz:∀ xs:List AR,(∀ x ∈ xs,¬ isSub (s.getD m .zero).fields x.k) → (xs.map (atX (atC s i) (s.getD m .zero).fields)).sum = 0:=by
      intro xs
      induction xs with
      | nil => intro _;rfl
      | cons x r ih =>
       intro h1
       have hx:atX (atC s i) (s.getD m .zero).fields x = 0:=if_neg (h1 x (by simp))
       rw [List.map_cons,List.sum_cons,hx,ih fun y hy => h1 y (by simp [hy])]
     exact hz _ hnone
    rw [this];rfl
   ·
    rw [if_neg hk]
 | succ d ih =>
  intro m l h k ds
  have hsub:∀ x ∈ arecs (s.getD m .zero).fields l,isSub (s.getD m .zero).fields x.k → ∀ (es:List Int),(dmsg s (d + 1) ((s.getD m .zero).fields.getD x.k.toNat .zero).of x.val (k + 1) es).length = max es.length (k + 1 + depL s d ((s.getD m .zero).fields.getD x.k.toNat .zero).of x.val + 1) ∧
    ∀ j,(dmsg s (d + 1) ((s.getD m .zero).fields.getD x.k.toNat .zero).of x.val (k + 1) es).getD j 0 = es.getD j 0 + (if k + 1 ≤ j then (atC s (j - (k + 1)) ((s.getD m .zero).fields.getD x.k.toNat .zero).of x.val:Int) else 0):=by
   intro x hx hs es
   obtain ⟨d3,e3,e4⟩:=sub_valid h hx hs
   obtain rfl:d = d3:=by omega
   by_cases ho:0 ≤ ((s.getD m .zero).fields.getD x.k.toNat .zero).of
   ·
    obtain ⟨o,ho⟩:∃ o:Nat,((s.getD m .zero).fields.getD x.k.toNat .zero).of = o:=⟨_,(Int.toNat_of_nonneg ho).symm⟩
    rw [ho,Int.toNat_natCast] at e4
    rw [ho]
    exact ih o x.val e4 (k + 1) es
   ·
    have hz:((s.getD m .zero).fields.getD x.k.toNat .zero).of.toNat = 0:=by omega
    rw [hz] at e4
    have h5:=ih 0 x.val e4 (k + 1) es
    have h6:depL s d ((s.getD m .zero).fields.getD x.k.toNat .zero).of x.val = depL s d ((0:Nat):Int) x.val:=by
     cases d with
     | zero => rfl
     | succ d => rw [depL,depL,hz,Int.toNat_natCast]
    have h7:dmsg s (d + 1) ((s.getD m .zero).fields.getD x.k.toNat .zero).of x.val (k + 1) es = dmsg s (d + 1) ((0:Nat):Int) x.val (k + 1) es:=by
     rw [dmsg,dmsg,hz,Int.toNat_natCast]
    have h8:∀ i,atC s i ((s.getD m .zero).fields.getD x.k.toNat .zero).of x.val = atC s i ((0:Nat):Int) x.val:=fun i => by
     cases i with
     | zero => rfl
     | succ i => rw [atC,atC,hz,Int.toNat_natCast]
    rw [h6,h7]
    refine ⟨h5.1,fun j => ?_⟩
    rw [h8]
    exact h5.2 j
  have hfold:∀ (xs:List AR),(∀ x ∈ xs,x ∈ arecs (s.getD m .zero).fields l) → ∀ es:List Int,k + 1 ≤ es.length →
    (xs.foldl (subD (fun o v ds => dmsg s (d + 1) o v (k + 1) ds) (s.getD m .zero).fields) es).length = max es.length (k + (xs.map fun x => if isSub (s.getD m .zero).fields x.k then depL s d ((s.getD m .zero).fields.getD x.k.toNat .zero).of x.val + 1 else 0).foldl max 0 + 1) ∧
    ∀ j,(xs.foldl (subD (fun o v ds => dmsg s (d + 1) o v (k + 1) ds) (s.getD m .zero).fields) es).getD j 0 = es.getD j 0 + (if k + 1 ≤ j then ((xs.map (atX (atC s (j - (k + 1))) (s.getD m .zero).fields)).sum:Int) else 0):=by
   intro xs
   induction xs with
   | nil => intro _ es hes;exact ⟨by simp;omega,fun j => by simp⟩
   | cons x r ihr =>
    intro h1 es hes
    have hx:=hsub x (h1 x (by simp))
    rw [List.foldl_cons]
    have hmx:∀ (l:List Nat) (a:Nat),l.foldl max a = max a (l.foldl max 0):=fun l => by
     induction l with
     | nil => intro a;simp
     | cons y t ih2 => intro a;rw [List.foldl_cons,List.foldl_cons,ih2 (max a y),ih2 (max 0 y)];omega
    by_cases hs:isSub (s.getD m .zero).fields x.k
    ·
     have e1:subD (fun o v ds => dmsg s (d + 1) o v (k + 1) ds) (s.getD m .zero).fields es x = dmsg s (d + 1) ((s.getD m .zero).fields.getD x.k.toNat .zero).of x.val (k + 1) es:=if_pos hs
     obtain ⟨g1,g2⟩:=hx hs es
     rw [e1]
     obtain ⟨i1,i2⟩:=ihr (fun y hy => h1 y (by simp [hy])) (dmsg s (d + 1) ((s.getD m .zero).fields.getD x.k.toNat .zero).of x.val (k + 1) es) (by omega)
     refine ⟨?_,fun j => ?_⟩
     ·
      rw [i1,g1,List.map_cons,List.foldl_cons,hmx _ (max 0 _),if_pos hs]
      omega
     ·
      rw [i2,g2,List.map_cons,List.sum_cons]
      have e2:atX (atC s (j - (k + 1))) (s.getD m .zero).fields x = atC s (j - (k + 1)) ((s.getD m .zero).fields.getD x.k.toNat .zero).of x.val:=if_pos hs
      rw [e2]
      by_cases hj:k + 1 ≤ j
      ·
       rw [if_pos hj,if_pos hj,if_pos hj];omega
      ·
       rw [if_neg hj,if_neg hj,if_neg hj];omega
    ·
     have e1:subD (fun o v ds => dmsg s (d + 1) o v (k + 1) ds) (s.getD m .zero).fields es x = es:=if_neg hs
     rw [e1]
     obtain ⟨i1,i2⟩:=ihr (fun y hy => h1 y (by simp [hy])) es hes
     refine ⟨?_,fun j => ?_⟩
     ·
      rw [i1,List.map_cons,List.foldl_cons,hmx _ (max 0 _),if_neg hs]
      omega
     ·
      have e2:atX (atC s (j - (k + 1))) (s.getD m .zero).fields x = 0:=if_neg hs
      rw [i2,List.map_cons,List.sum_cons,e2,Nat.zero_add]
  obtain ⟨f1,f2⟩:=hfold _ (fun x hx => hx) (bumpD ds k) (by rw [bumpD_len];omega)
  rw [dmsg,Int.toNat_natCast]
  constructor
  ·
   rw [f1,bumpD_len,depL,Int.toNat_natCast]
   omega
  ·
   intro j
   rw [f2,getD_bumpD]
   by_cases hj:j = k
   ·
    subst hj
    rw [if_pos rfl,if_neg (by omega),if_pos (Nat.le_refl _),Nat.sub_self,atC]
    simp
   ·
    rw [if_neg hj]
    by_cases hk:k ≤ j
    ·
     rw [if_pos (by omega),if_pos hk]
     obtain ⟨i,hi⟩:∃ i,j - k = i + 1:=⟨j - k - 1,by omega⟩
     have hi2:j - (k + 1) = i:=by omega
     rw [hi,hi2,atC,Int.toNat_natCast]
     omega
    ·
     rw [if_neg (by omega),if_neg hk]
     omega
theorem atC_le (s:List Mes):∀ (i:Nat) (m:Int) (l:List UInt8),atC s i m l ≤ 1 + l.length
 | 0,_,_ => by rw [atC];omega
 | i + 1,m,l => by
  obtain ⟨hs,ht⟩:=vall_sum (s.getD m.toNat .zero).fields l l.length 0 (Nat.zero_le _)
  have key:∀ xs:List VW,(∀ x ∈ xs,Thin x) → ((xs.map (arOf l)).map (atX (atC s i) (s.getD m.toNat .zero).fields)).sum ≤ vsum xs:=by
   intro xs
   induction xs with
   | nil => intro _;simp [vsum]
   | cons x r ih =>
    intro h
    have h1:=ih fun y hy => h y (by simp [hy])
    have hx:1 + (x.r.to - x.r.at') ≤ vsize x:=h x (by simp)
    have e1:vsum (x :: r) = vsize x + vsum r:=by unfold vsum;rw [List.map_cons,List.sum_cons]
    have hv:(arOf l x).val.length ≤ x.r.to - x.r.at':=by
     show (part l x.r.at' x.r.to).length ≤ _
     unfold part
     rw [List.length_take]
     omega
    rw [List.map_cons,List.map_cons,List.sum_cons,e1]
    have h2:atX (atC s i) (s.getD m.toNat .zero).fields (arOf l x) ≤ vsize x:=by
     unfold atX
     split
     ·
      have:=atC_le s i ((s.getD m.toNat .zero).fields.getD (arOf l x).k.toNat .zero).of (arOf l x).val
      omega
     ·
      omega
    omega
  have hk:=key (vall (s.getD m.toNat .zero).fields l).1 ht
  have hs':vsum (vall (s.getD m.toNat .zero).fields l).1 ≤ l.length:=by unfold vall;omega
  rw [atC]
  unfold arecs
  omega
end Go.Proofs.YtphkmpnahnakaaaGreat
namespace Go.Proofs.YtphkmpnahnakaaaGreat
open Go.RowKit
theorem info_rview:(Tryz.prog.info? 73).map (fun i => (i.zero,i.size,i.bytes)) = some (some (.agg #[.int .i64 0,.int .i64 0,.int .i64 0,.int .i64 0,.int .i64 0,.int .i64 0,.bool false]),7,56):=by kernel_rfl
set_option maxRecDepth 100000 in
set_option maxHeartbeats 8000000 in
theorem ref10_All {w:World} {v vf:Value} {l:List UInt8} {fs:List Fld} (h:Bytes w v l) (hl:l.length ≤ 1099511627776) (hf:FieldsAt w vf fs) (nm:ByteArray) :
  Calls Tryz.prog 20 #[.agg #[.string nm,vf],v] w (AllPost w 73 (fun c => .int .i64 (c:Int)) (vall fs l)):=by
 have HLL:=hid hl
 obtain ⟨hlen,a,cap,rfl,-,-,-,-⟩:=h.open
 obtain ⟨-,fa,fc,rfl,-⟩:=hf.open
 obtain ⟨n,HN⟩:∃ n,Hid (n = l.length):=⟨_,rfl⟩
 obtain ⟨fn,HFN⟩:∃ n,Hid (n = fs.length):=⟨_,rfl⟩
 rw [← HN.out] at hlen HLL hl h ⊢
 rw [← HFN.out] at hf ⊢
 obtain ⟨w1,HW1⟩:∃ w1,Hid (w1 = w.alloc (.cells #[.string nm,.slice fa fn fc] 51)):=⟨_,rfl⟩
 have hb1:Below w.heap.size w w1:=by rw [HW1.out];(repeat (first | with_reducible exact Below.refl _ _ | with_reducible refine Below.setCell ?_ (by first | omega | (simp;omega) | (simp;done)) _ | with_reducible refine Below.alloc ?_ (by first | omega | (simp;omega) | (simp;done)) _ | with_reducible refine below_drewN ?_ _ | with_reducible refine Below.drew ?_))
 have hbx:Blk w1 w.heap.size [.string nm,.slice fa fn fc] 51:=by rw [HW1.out];exact Blk.new w [.string nm,.slice fa fn fc] _
 have HB1:=hid hb1
 have HBX:=hid hbx
 have HV:=hid (h.below hb1)
 have HF:=hid (hf.below hb1)
 obtain ⟨Q,HQ⟩:∃ Q:Ending → World → Prop,Hid (Q = AllPost w 73 (fun c => .int .i64 (c:Int)) (vall fs l)):=⟨_,rfl⟩
 rw [← HQ.out]
 clear h hf hb1 hbx
 go_enter Tryz.func20,Tryz.ntmps20
 go_wp2_with fail
 rw [← HW1.out]
 go_loopw [7,8,9,10] (fun v7 v8 _ _ wr => ∃ (pre:List VW) (oa:Option Addr) (m oc at':Nat),v7 = .slice oa m oc ∧ v8 = .int .i64 at' ∧ at' ≤ n ∧ m ≤ at' ∧ Hid (m = pre.length ∧ (∃ fuel,n - at' ≤ fuel ∧ vall fs l = glueV pre (vallGo fs l fuel at')) ∧ Below w1.heap.size w1 wr ∧ RowsOwn viewP 73 7 0 w1.heap.size wr (.slice oa m oc) pre)) (fun _ v8 _ _ _ => n - (intOf v8).toNat)
 case atStart => exact ⟨[],none,0,0,0,rfl,rfl,by omega,by omega,rfl,⟨l.length,by have:=HN.out;omega,by rw [glueV_nil];rfl⟩,Below.refl _ _,RowsOwn.nil _ _ _ _ _ _⟩
 case round =>
  obtain ⟨pre,oa,m,oc,at',rfl,rfl,hat,hmat,HI⟩:=hrel
  have hbx:=HBX.out.below HI.out.2.2.1
  have c0:=hbx.cell 0 _ rfl
  have c1:=hbx.cell 1 _ rfl
  have hsz:=hbx.lt
  have HBW:Hid (Below w.heap.size w wr):=HB1.out.trans (HI.out.2.2.1.mono HB1.out.size)
  clear hbx
  by_cases hlt:at' < n
  ·
   obtain ⟨r,k,run,c,HR⟩:∃ r k run c,Hid (vlook fs l at' = (r,k,run,c)):=⟨_,_,_,_,rfl⟩
   have hlk:=ref10_Look (HV.out.below HI.out.2.2.1) (HF.out.below HI.out.2.2.1) nm at'
   rw [HR.out] at hlk
   have HLK:=hid hlk
   obtain ⟨rn,rw',rs,ra,rt⟩:=r
   simp only [viewV] at HLK
   clear hlk
   by_cases hc:c = 0
   ·
    subst hc
    have hok:at' < rt ∧ rt ≤ n:=by
     have:=vlook_ok (fs:=fs) (l:=l) (i:=at') (by rw [HR.out])
     rw [HR.out,← HN.out] at this
     exact ⟨this.2.1,this.2.2.1⟩
    have HST:Hid (∃ fuel,n - rt ≤ fuel ∧ vall fs l = glueV (pre ++ [⟨⟨rn,rw',rs,ra,rt⟩,k,run⟩]) (vallGo fs l fuel rt)):=by
     obtain ⟨fuel,h1,h2⟩:=HI.out.2.1
     obtain ⟨f',rfl⟩:∃ f',fuel = f' + 1:=⟨fuel - 1,by omega⟩
     exact ⟨f',by omega,by rw [h2,glueV_step (by rw [← HN.out];exact hlt) HR.out]⟩
    go_wp2_with fail
    refine HLK.out.mono ?_
    rintro e w2 ⟨rfl,hb1⟩
    have hb2:=hb1.alloc hb1.size (.cells #[.int .i64 rn,.int .i64 rw',.int .i64 rs,.int .i64 ra,.int .i64 rt,.int .i64 k,.bool run] 73)
    have hk2:=Blk.new w2 [.int .i64 rn,.int .i64 rw',.int .i64 rs,.int .i64 ra,.int .i64 rt,.int .i64 k,.bool run] 73
    have hX:wr.heap.size ≤ w2.heap.size:=hb1.size
    generalize hW2:w2.alloc (.cells #[.int .i64 rn,.int .i64 rw',.int .i64 rs,.int .i64 ra,.int .i64 rt,.int .i64 k,.bool run] 73) = W2 at *
    obtain ⟨X,HX⟩:∃ X,Hid (X = w2.heap.size):=⟨_,rfl⟩
    rw [← HX.out] at hk2 hX
    obtain ⟨a5,c5,w5,hr5,hO5,hB4,hB5,hk5⟩:=RowsOwn.step2 HI.out.2.2.2 hb2 (by decide) (by omega) HI.out.2.2.1.size HI.out.1.symm 67 _ 56 Tryz.underlying67 info_rview rfl #[.int .i64 rn,.int .i64 rw',.int .i64 rs,.int .i64 ra,.int .i64 rt,.int .i64 k,.bool run] rfl (by intro u hu;simp at hu;rcases hu with rfl | rfl | rfl | rfl | rfl | rfl | rfl <;> rfl) ⟨⟨rn,rw',rs,ra,rt⟩,k,run⟩ (fun _ _ => rfl) (by have:=HLL.out;omega) (by decide)
    have hkf:Blk w5 X [.int .i64 rn,.int .i64 rw',.int .i64 rs,.int .i64 ra,.int .i64 rt,.int .i64 k,.bool run] 73:=(hk5 X hX hk2.lt).trans hk2
    have HK:=hid (And.intro hk2 hkf)
    have HR5:=hid hr5
    have HO5:=hid hO5
    have HB5:Hid (Below w1.heap.size wr w5):=hB5
    have HWW:=hid hW2
    clear hkf hr5 hO5 hB4 hB5 hk5 hb2 hk2 hb1 c0 c1 hsz hW2
    go_upto_region 7 with fail
    rw [HWW.out,← HX.out]
    have h0:=HK.out.1.cell 0 _ rfl
    have h1:=HK.out.1.cell 1 _ rfl
    have h2:=HK.out.1.cell 2 _ rfl
    have h3:=HK.out.1.cell 3 _ rfl
    have h4:=HK.out.1.cell 4 _ rfl
    have h5:=HK.out.1.cell 5 _ rfl
    have h6:=HK.out.1.cell 6 _ rfl
    have g4:=HK.out.2.cell 4 _ rfl
    go_wp2_with (at_builtin;refine wpList_append_eq rfl _ _ _ rfl _ _ rfl rfl HR5.out ?_)
    go_roundw
    case rel => exact ⟨pre ++ [⟨⟨rn,rw',rs,ra,rt⟩,k,run⟩],_,_,_,rt,rfl,rfl,hok.2,by have:=hok.1;omega,by rw [List.length_append,← HI.out.1];rfl,HST.out,HI.out.2.2.1.trans HB5.out,HO5.out⟩
    case measure => simp [intOf];have:=hok.1;omega
   ·
    have HE:Hid (vall fs l = ([],at',c)):=by
     obtain ⟨fuel,h1,h2⟩:=HI.out.2.1
     obtain ⟨f',rfl⟩:∃ f',fuel = f' + 1:=⟨fuel - 1,by omega⟩
     rw [Hid,h2,glueV_bad (by rw [← HN.out];exact hlt) (by rw [HR.out]) hc]
    have hc1:((c:Int) != 0) = true:=by simp;exact hc
    have hc2:((c:Int) == 0) = false:=by simp;exact hc
    clear hc
    go_wp2_with fail
    refine HLK.out.mono ?_
    rintro e w2 ⟨rfl,hb1⟩
    have HB2:Hid (Below w.heap.size w w2):=below_step HBW.out hb1 HBW.out.size
    clear hb1
    go_wp2_with fail
    rw [HQ.out,HE.out]
    go_ret3
    exact ⟨_,w.heap.size,rfl,Nat.le_refl _,RowsOwn.nil _ _ _ _ _ _,HB2.out.alloc HB2.out.size _⟩
  ·
   obtain rfl:at' = n:=by omega
   have HE:Hid (vall fs l = (pre,0,0)):=by
    obtain ⟨fuel,h1,h2⟩:=HI.out.2.1
    rw [Hid,h2,glueV_end (by rw [← HN.out];omega)]
   go_wp2_with fail
   rw [HQ.out,HE.out]
   go_ret3
   exact ⟨_,w1.heap.size,rfl,HB1.out.size,HI.out.2.2.2,HBW.out⟩
end Go.Proofs.YtphkmpnahnakaaaGreat
