/- record.Value; slices.IndexFunc and ContainsFunc of views by a function that allocates at most. At most 2^40 views. norm.numbers: the numbers of a field's records as one canonical run. At most 2^36 of them. -/
import Derived.Test.YtfimpmennkfjcaaGreatDoorZ24
import Derived.Test.YtfimpmennkfjcaaGreatDoorZ26
import Derived.Test.YtfimpmennkfjcaaGreatDoorZ29
namespace Go.Proofs.YtfimpmennkfjcaaGreatDoor
open Go.RowKit
set_option maxRecDepth 100000 in
set_option maxHeartbeats 4000000 in
theorem record_Value {w:World} {v:Value} {l:List UInt8} (h:Bytes w v l) (r:Rec) (hij:r.at' ≤ r.to) (hj:r.to ≤ l.length) :
  Calls Tryz.prog 82 #[v,r.val] w fun e w' => ∃ v',e = .returned v' ∧ Own w' w.heap.size v' (part l r.at' r.to) ∧ Below w.heap.size w w':=by
 obtain ⟨hlen,a,cap,rfl,-⟩:=h.open
 obtain ⟨n,HN⟩:∃ n,Hid (n = l.length):=⟨_,rfl⟩
 have H:=hid h
 rw [← HN.out] at hlen H hj ⊢
 obtain ⟨r1,r2,i,at',j⟩:=r
 simp only at hij hj ⊢
 obtain ⟨Q,HQ⟩:∃ Q:Ending → World → Prop,Hid (Q = fun e w' => ∃ v',e = .returned v' ∧ Own w' w.heap.size v' (part l at' j) ∧ Below w.heap.size w w'):=⟨_,rfl⟩
 rw [← HQ.out]
 unfold Rec.val
 simp only
 clear h
 go_enter Tryz.func82,Tryz.ntmps82
 have hb0:Below w.heap.size w (w.alloc (.cells #[.int .i64 r1,.int .i64 r2,.int .i64 i,.int .i64 at',.int .i64 j] 138)):=by (repeat (first | with_reducible exact Below.refl _ _ | with_reducible refine Below.setCell ?_ (by first | omega | (simp;omega) | (simp;done)) _ | with_reducible refine Below.alloc ?_ (by first | omega | (simp;omega) | (simp;done)) _ | with_reducible refine below_drewN ?_ _ | with_reducible refine Below.drew ?_))
 have HSP:=hid (record_span (H.out.below hb0) at' j hij (by rw [← HN.out];exact hj))
 go_wp2_with (go_at_call 111;refine HSP.out.mono ?_;rintro e w1 ⟨o,rfl,hown,hb1⟩)
 rw [HQ.out]
 exact ⟨_,rfl,hown.mono hb0.size,hb0.trans (hb1.mono hb0.size)⟩
def ViewsAt (w:World) (v:Value) (l:List VW):Prop:=∃ a c,v = .slice a l.length c ∧ l.length ≤ 1099511627776 ∧ ∀ (k:Nat) (x:VW),l[k]? = some x → ∃ b o,a = some ⟨b,o,none⟩ ∧ ∀ j u,x.cells[j]? = some u → w.cell? ⟨b,o + k * 7 + j,none⟩ = some u
theorem ViewsAt.keep {w w':World} {v:Value} {l:List VW} (h:ViewsAt w v l) (hk:∀ p u,w.cell? p = some u → w'.cell? p = some u):ViewsAt w' v l:=by
 obtain ⟨a,c,h1,h2,h3⟩:=h
 refine ⟨a,c,h1,h2,fun k x hx => ?_⟩
 obtain ⟨b,o,ha,hc⟩:=h3 k x hx
 exact ⟨b,o,ha,fun j u hu => hk _ _ (hc j u hu)⟩
theorem views_read {w:World} {v:Value} {base:Nat} {T:TypeId} {l:List VW} (h:RowsOwn viewP T 7 0 base w v l) (hl:l.length ≤ 1099511627776):ViewsAt w v l:=by
 obtain ⟨a,c,rfl⟩:=h.form
 refine ⟨a,c,rfl,hl,fun k x hx => ?_⟩
 obtain ⟨b,o,ha,-,-,hc⟩:=views_at h (by omega) k x hx
 exact ⟨b,o,ha,hc⟩
def IdxPost (w:World) (z:Option Nat) (e:Ending) (w':World):Prop:=e = .returned (.int .i64 (match z with | some i => (i:Int) | none => -1)) ∧ Below w.heap.size w w'
set_option maxRecDepth 100000 in
set_option maxHeartbeats 4000000 in
theorem indexFunc_views {w:World} {v:Value} {l:List VW} (h:ViewsAt w v l) (F:Nat) (cap:Array Value) (p:VW → Bool) (hcf:∀ (args:Array Value) (w:World),(callFunc F args).run Tryz.prog w = .ok (.enter F args) w)
  (hcl:∀ (x:VW) (wr:World),x ∈ l → Below w.heap.size w wr → Calls Tryz.prog F (#[viewV x.r x.k x.run] ++ cap) wr fun e w' => e = .returned (.bool (p x)) ∧ Below wr.heap.size wr w') :
  Calls Tryz.prog 110 #[v,.func (.func F) #[] cap] w (IdxPost w (l.findIdx? p)):=by
 obtain ⟨a,c,rfl,hlen,hat⟩:=h
 obtain ⟨n,HN⟩:∃ n,Hid (n = l.length):=⟨_,rfl⟩
 rw [← HN.out] at hlen ⊢
 obtain ⟨Q,HQ⟩:∃ Q:Ending → World → Prop,Hid (Q = IdxPost w (l.findIdx? p)):=⟨_,rfl⟩
 rw [← HQ.out]
 have HAT:=hid hat
 have HCL:=hid hcl
 clear hat hcl
 go_enter Tryz.func110,Tryz.ntmps110
 go_wp2_with fail
 go_loopw [8] (fun v8 wr => ∃ k:Nat,k ≤ n ∧ v8 = .int .i64 (k:Int) ∧ Hid ((∀ x ∈ l.take k,p x = false) ∧ Below w.heap.size w wr)) (fun v8 _ => n - (intOf v8).toNat)
 case atStart => exact ⟨0,by omega,rfl,by simp,Below.refl _ _⟩
 case round =>
  obtain ⟨k,hk,rfl,HK⟩:=hrel
  by_cases hlt:k < n
  ·
   obtain ⟨x,hx⟩:∃ x,l[k]? = some x:=⟨_,List.getElem?_eq_getElem (by rw [← HN.out];exact hlt)⟩
   obtain ⟨b,o,ha,hc⟩:=HAT.out k x hx
   have hkr:=below_keeps HK.out.2
   have n0:=hkr _ _ (hc 0 _ rfl)
   have n1:=hkr _ _ (hc 1 _ rfl)
   have n2:=hkr _ _ (hc 2 _ rfl)
   have n3:=hkr _ _ (hc 3 _ rfl)
   have n4:=hkr _ _ (hc 4 _ rfl)
   have n5:=hkr _ _ (hc 5 _ rfl)
   have n6:=hkr _ _ (hc 6 _ rfl)
   rw [Nat.add_zero] at n0
   have hix:=index_run Tryz.underlying135 size_vw ha k hlt (cap:=c)
   have hbl:=World.block_lt_of_cell? wr _ n0
   have HC:=hid (HCL.out x wr (List.mem_of_getElem? hx) HK.out.2)
   have HX:=hid hx
   obtain ⟨P0,HP0⟩:∃ b,Hid (b = p x):=⟨_,rfl⟩
   rw [← HP0.out] at HC
   unfold viewV at HC
   obtain ⟨x0,HX0⟩:∃ x0,Hid (x0 = x):=⟨_,rfl⟩
   rw [← HX0.out] at HX HP0
   obtain ⟨⟨x1,x2,x3,x4,x5⟩,xk,xrun⟩:=x
   simp only at n0 n1 n2 n3 n4 n5 n6 HC
   clear ha hc hkr hx
   go_wp2_with fail
   refine HC.out.mono ?_
   rintro e w5 ⟨rfl,hb5⟩
   have HB5:=hid (HK.out.2.trans (hb5.mono HK.out.2.size))
   clear hb5 n0 n1 n2 n3 n4 n5 n6 hix hbl
   cases P0 with
   | true =>
    have HE:Hid (Q (.returned (.int .i64 (k:Int))) w5):=by
     have hf:l.findIdx? p = some k:=by
      rw [List.findIdx?_eq_some_iff_getElem]
      obtain ⟨h1,h2⟩:=List.getElem?_eq_some_iff.1 HX.out
      refine ⟨h1,by rw [h2,← HP0.out],fun j hj => ?_⟩
      have:=HK.out.1 l[j] (List.mem_take_iff_getElem.2 ⟨j,by omega,rfl⟩)
      rw [this];simp
     rw [HQ.out,hf]
     exact ⟨rfl,HB5.out⟩
    go_wp2_with fail
    exact HE.out
   | false =>
    have HE:Hid ((∀ x ∈ l.take (k + 1),p x = false) ∧ Below w.heap.size w w5):=by
     refine ⟨fun y hy => ?_,HB5.out⟩
     rw [List.take_add_one,HX.out] at hy
     rcases List.mem_append.1 hy with hy | hy
     ·
      exact HK.out.1 y hy
     ·
      simp at hy;rw [hy,← HP0.out]
    go_wp2_with fail
    go_roundw
    case rel => exact ⟨k + 1,by omega,by go_num,HE.out⟩
    case measure => simp [intOf];omega
  ·
   have HE:Hid (Q (.returned (.int .i64 (-1))) wr):=by
    have hf:l.findIdx? p = none:=by
     rw [List.findIdx?_eq_none_iff]
     intro x hx
     refine HK.out.1 x ?_
     rw [List.take_of_length_le (by rw [← HN.out];omega)]
     exact hx
    rw [HQ.out,hf]
    exact ⟨rfl,HK.out.2⟩
   go_wp2_with fail
   exact HE.out
set_option maxRecDepth 100000 in
set_option maxHeartbeats 4000000 in
theorem containsFunc_views {w:World} {v:Value} {l:List VW} (h:ViewsAt w v l) (F:Nat) (cap:Array Value) (p:VW → Bool) (hcf:∀ (args:Array Value) (w:World),(callFunc F args).run Tryz.prog w = .ok (.enter F args) w)
  (hcl:∀ (x:VW) (wr:World),x ∈ l → Below w.heap.size w wr → Calls Tryz.prog F (#[viewV x.r x.k x.run] ++ cap) wr fun e w' => e = .returned (.bool (p x)) ∧ Below wr.heap.size wr w') :
  Calls Tryz.prog 80 #[v,.func (.func F) #[] cap] w fun e w' => e = .returned (.bool (l.any p)) ∧ Below w.heap.size w w':=by
 have HI:=hid (indexFunc_views h F cap p hcf hcl)
 obtain ⟨a,c,rfl,hlen,-⟩:=h
 obtain ⟨z,HZ⟩:∃ z,Hid (z = l.findIdx? p):=⟨_,rfl⟩
 have HA:Hid (l.any p = z.isSome):=by rw [Hid,HZ.out,List.findIdx?_isSome]
 rw [← HZ.out] at HI
 rw [HA.out]
 generalize l.length = n at *
 clear hcl hcf HA HZ hlen
 unfold IdxPost at HI
 cases z with
 | none =>
  simp only at HI
  go_enter Tryz.func80,Tryz.ntmps80
  go_wp2_with fail
  refine HI.out.mono ?_
  rintro e w1 ⟨rfl,hb⟩
  go_wp2_with fail
  go_ret
  exact ⟨rfl,hb⟩
 | some i =>
  simp only at HI
  go_enter Tryz.func80,Tryz.ntmps80
  go_wp2_with fail
  refine HI.out.mono ?_
  rintro e w1 ⟨rfl,hb⟩
  have e1:decide ((0:Int) ≤ (i:Int)) = true:=decide_eq_true (by omega)
  go_wp2_with fail
  go_ret
  exact ⟨by simp,hb⟩
end Go.Proofs.YtfimpmennkfjcaaGreatDoor
namespace Go.Proofs.YtfimpmennkfjcaaGreatDoor
open Go.RowKit
theorem flat_take {α β:Type} (g:α → List β) {l:List α} {k:Nat} {x:α} (h:l[k]? = some x):(l.take (k + 1)).flatMap g = (l.take k).flatMap g ++ g x:=by
 rw [List.take_add_one,h,List.flatMap_append];simp
theorem flat_take_le {α β:Type} (g:α → List β) (l:List α) (k:Nat):((l.take k).flatMap g).length ≤ (l.flatMap g).length:=by
 conv => rhs;rw [← List.take_append_drop k l,List.flatMap_append,List.length_append]
 omega
set_option maxRecDepth 100000 in
set_option maxHeartbeats 8000000 in
theorem norm_numbers {w:World} {f:Fld} {bv v:Value} {l:List UInt8} {xs:List VW} (hk:knumber f.kind = true) (hb:Bytes w bv l) (hl:l.length ≤ 1099511627776) (hv:ViewsAt w v xs) (hx:∀ x ∈ xs,x.r.at' ≤ x.r.to ∧ x.r.to ≤ l.length)
  (hw:(xs.flatMap (pieceW f l)).length ≤ 68719476736) :
  Calls Tryz.prog 119 #[f.val,bv,v] w fun e w' => ∃ v',e = .returned v' ∧ Own w' w.heap.size v' (kpack f.kind (xs.flatMap (pieceW f l))) ∧ Below w.heap.size w w':=by
 have HK:=hid hk
 have HB:=hid hb
 have HL:=hid hl
 have HX:=hid hx
 have HW:=hid hw
 have HLT:Hid (∀ k,∀ y ∈ (xs.take k).flatMap (pieceW f l),y < 2 ^ 64):=fun k y hy => by
  obtain ⟨z,-,hz⟩:=List.mem_flatMap.1 hy
  exact pieceW_lt hz
 obtain ⟨-,va,vcap,rfl,-⟩:=hb.open
 obtain ⟨xa,xc,rfl,hxl,hxc⟩:=hv
 have HXC:=hid hxc
 obtain ⟨ln,HLN⟩:∃ n,Hid (n = l.length):=⟨_,rfl⟩
 obtain ⟨xn,HXN⟩:∃ n,Hid (n = xs.length):=⟨_,rfl⟩
 rw [← HLN.out] at HB HL HX ⊢
 rw [← HXN.out] at hxl ⊢
 obtain ⟨X,HXX⟩:∃ X,Hid (X = w.heap.size):=⟨_,rfl⟩
 obtain ⟨W1,HW1⟩:∃ W,Hid (W = w.alloc (.cells #[.string f.name,.int .i64 f.number,.int .i64 f.kind,.bool f.rep,.bool f.packed,.int .i64 f.of] 64)):=⟨_,rfl⟩
 have hb1:Below w.heap.size w W1:=by rw [HW1.out];exact (Below.refl _ _).alloc (Nat.le_refl _) _
 have hk1:Blk W1 X f.cells 64:=by rw [HW1.out,HXX.out];exact Blk.new w [.string f.name,.int .i64 f.number,.int .i64 f.kind,.bool f.rep,.bool f.packed,.int .i64 f.of] _
 have HB1:=hid hb1
 have HK1:=hid hk1
 have HZ1:Hid (w.heap.size ≤ W1.heap.size):=hb1.size
 obtain ⟨Q,HQ⟩:∃ Q:Ending → World → Prop,Hid (Q = fun e w' => ∃ v',e = .returned v' ∧ Own w' w.heap.size v' (kpack f.kind (xs.flatMap (pieceW f l))) ∧ Below w.heap.size w w'):=⟨_,rfl⟩
 rw [← HQ.out]
 clear hk hb hl hx hw hxc hb1 hk1
 rw [show f.val = .agg #[.string f.name,.int .i64 f.number,.int .i64 f.kind,.bool f.rep,.bool f.packed,.int .i64 f.of] from rfl]
 go_enter Tryz.func119,Tryz.ntmps119
 go_wp2_with fail
 rw [← HW1.out,← HXX.out]
 go_loopw [7,19] (fun v7 v19 wr => ∃ (k:Nat) (wa:Option Addr) (wn wc:Nat),v19 = .int .i64 (k:Int) ∧ v7 = .slice wa wn wc ∧ k ≤ xn ∧ Hid (WordsOwn wr W1.heap.size (.slice wa wn wc) ((xs.take k).flatMap (pieceW f l)) ∧ Below W1.heap.size W1 wr)) (fun _ v19 _ => xn - (intOf v19).toNat)
 case atStart => exact ⟨0,none,0,0,rfl,rfl,by omega,World.ownsRow_nil _ _ _ _,Below.refl _ _⟩
 case round =>
  obtain ⟨k,wa,wn,wc,rfl,rfl,hkn,HI⟩:=hrel
  have hB0:Below w.heap.size w wr:=HB1.out.trans (HI.out.2.mono HZ1.out)
  have HB0:=hid hB0
  have hkx:=HK1.out.below HI.out.2
  have c2:=hkx.cell 2 _ rfl
  have lx:=hkx.lt
  by_cases hlt:k < xn
  ·
   obtain ⟨x,hx⟩:∃ x,xs[k]? = some x:=⟨_,List.getElem?_eq_getElem (by rw [← HXN.out];exact hlt)⟩
   obtain ⟨vb,vo,haa,hvc⟩:=HXC.out k x hx
   subst haa
   have hcv:∀ j u,x.cells[j]? = some u → wr.cell? ⟨vb,vo + k * 7 + j,none⟩ = some u:=fun j u hu => below_keeps hB0 _ _ (hvc j u hu)
   have n0:=hcv 0 _ rfl
   have n1:=hcv 1 _ rfl
   have n2:=hcv 2 _ rfl
   have n3:=hcv 3 _ rfl
   have n4:=hcv 4 _ rfl
   have n5:=hcv 5 _ rfl
   have n6:=hcv 6 _ rfl
   rw [Nat.add_zero] at n0
   obtain ⟨hx1,hx2⟩:=HX.out x (List.mem_of_getElem? hx)
   have HTK:Hid ((xs.take (k + 1)).flatMap (pieceW f l) = (xs.take k).flatMap (pieceW f l) ++ pieceW f l x):=flat_take _ hx
   have HLE:Hid (((xs.take k).flatMap (pieceW f l)).length ≤ 68719476736 ∧ ((xs.take (k + 1)).flatMap (pieceW f l)).length ≤ 68719476736):=by
    have h1:=flat_take_le (pieceW f l) xs k
    have h2:=flat_take_le (pieceW f l) xs (k + 1)
    have:=HW.out
    exact ⟨by omega,by omega⟩
   obtain ⟨pw,HPW⟩:∃ pw,Hid (pw = pieceW f l x):=⟨_,rfl⟩
   rw [← HPW.out] at HTK
   obtain ⟨⟨x1,x2,x3,x4,x5⟩,xk,xrun⟩:=x
   simp only at n0 n1 n2 n3 n4 n5 n6 hx1 hx2
   obtain ⟨W6,HW6⟩:∃ W6,Hid (W6 = wr.alloc (.cells #[.int .i64 x1,.int .i64 x2,.int .i64 x3,.int .i64 x4,.int .i64 x5,.int .i64 xk,.bool xrun] 140)):=⟨_,rfl⟩
   obtain ⟨VB,HVB⟩:∃ VB,Hid (VB = wr.heap.size):=⟨_,rfl⟩
   have hb6:Below wr.heap.size wr W6:=by rw [HW6.out];exact (Below.refl _ _).alloc (Nat.le_refl _) _
   have hv6:Blk W6 VB [.int .i64 x1,.int .i64 x2,.int .i64 x3,.int .i64 x4,.int .i64 x5,.int .i64 xk,.bool xrun] 140:=by rw [HW6.out,HVB.out];exact Blk.new wr [.int .i64 x1,.int .i64 x2,.int .i64 x3,.int .i64 x4,.int .i64 x5,.int .i64 xk,.bool xrun] _
   have hO6:=HI.out.1.later hb6
   have hB16:Below W1.heap.size W1 W6:=HI.out.2.trans (hb6.mono HI.out.2.size)
   have HO6:=hid hO6
   have HB16:=hid hB16
   obtain ⟨pa,pc,hcut,-,hby⟩:=(HB.out.below (HB0.out.trans (hb6.mono hB0.size))).cut HLN.out x4 x5 hx1 hx2
   obtain ⟨y,HY⟩:∃ y,Hid (y = (l.drop x4).take (x5 - x4)):=⟨_,rfl⟩
   rw [← HY.out] at hby
   have HBY:=hid hby
   have HYV:Hid (y = vbytes l ⟨⟨x1,x2,x3,x4,x5⟩,xk,xrun⟩):=HY.out
   have HYL:Hid (y.length ≤ 1099511627776):=by have h:=HL.out;show _ ≤ _;rw [HY.out,List.length_take];omega
   have hkx6:=hkx.below hb6
   have HKX6:=hid hkx6
   have HZ6:Hid (W1.heap.size ≤ W6.heap.size):=hB16.size
   have d3:=hv6.cell 3 _ rfl
   have d4:=hv6.cell 4 _ rfl
   have d6:=hv6.cell 6 _ rfl
   have e2:=hkx6.cell 2 _ rfl
   have lv:=hv6.lt
   have lx6:=hkx6.lt
   have HV6:=hid hv6
   clear hvc hcv hx hb6 hv6 hO6 hB16 hby hkx hkx6 hB0 c2 lx HI
   go_upto_region 5 with fail
   rw [← HW6.out,← HVB.out]
   clear n0 n1 n2 n3 n4 n5 n6
   have HPT:Hid (∀ u ∈ pw,u < 2 ^ 64):=by rw [HPW.out];exact fun u hu => pieceW_lt hu
   have HPL:Hid (((xs.take k).flatMap (pieceW f l)).length + pw.length ≤ 68719476736):=by
    have h:=HLE.out.2
    rw [HTK.out,List.length_append] at h
    exact h
   cases xrun with
   | true =>
    have HPE:Hid (pw = (runWords f.kind y).1):=by
     rw [Hid,HPW.out,HYV.out];unfold pieceW;rw [if_pos rfl]
    have HRW:=hid (run_Words HBY.out HYL.out f.kind HK.out)
    clear hx1 hx2
    go_wp2_with (first | (go_at_call 151;refine HRW.out.mono ?_;rintro e w6 ⟨v6,rfl,hO6,hb6⟩;rw [← HPE.out] at hO6;obtain ⟨a6,c6',rfl⟩:=hO6.form;obtain ⟨v7,w7,hr,hO7,hg7,hat7⟩:=words_app (HO6.out.later hb6) (hO6.words (by have:=HPL.out;omega) HPT.out) (by have:=HPL.out;omega) (by have:=hb6.size;have:=HZ6.out;omega);obtain ⟨a7,n7,c7,rfl⟩:=hO7.form';have HR:=hid hr;have HO7:=hid hO7;have HB7:Hid (Below W1.heap.size W1 w7):=(HB16.out.trans (hb6.mono HZ6.out)).grown hg7 (by have:=hb6.size;have:=HZ6.out;omega) (fun q e => ((HO6.out.later hb6).own q e).1);clear hr hO7 hg7 hat7 hO6 hb6) | (at_builtin;refine wpList_append_eq rfl _ _ _ rfl _ _ rfl rfl HR.out ?_))
    go_roundw
    case rel => exact ⟨k + 1,_,_,_,by go_num,rfl,by omega,by rw [HTK.out];exact HO7.out,HB7.out⟩
    case measure => simp [intOf];omega
   | false =>
    obtain ⟨zw,HZW⟩:∃ zw,Hid (zw = kread f.kind y):=⟨_,rfl⟩
    obtain ⟨z1,z2⟩:=zw
    have HPE:Hid (pw = [z1]):=by
     rw [Hid,HPW.out];unfold pieceW;rw [if_neg (show ¬ false = true by decide),if_pos HK.out,← HYV.out,← HZW.out]
    have HRD:=hid (scalar_Read HK.out HBY.out)
    rw [← HZW.out] at HRD
    clear hx1 hx2
    go_wp2_with (first | (go_at_call 120;refine HRD.out.mono ?_;rintro e w6 ⟨rfl,hb6⟩;obtain ⟨v7,w7,hr,hO7,hg7,hat7⟩:=word_app1 (HO6.out.later hb6) z1 (by have:=HPL.out;omega) (by have:=hb6.size;have:=HZ6.out;omega);obtain ⟨a7,n7,c7,rfl⟩:=hO7.form';have HR:=hid hr;have HO7:=hid hO7;have HB7:Hid (Below W1.heap.size W1 w7):=(HB16.out.trans (hb6.mono HZ6.out)).grown hg7 (by have:=hb6.size;have:=HZ6.out;omega) (fun q e => ((HO6.out.later hb6).own q e).1);clear hr hO7 hg7 hat7 hb6) | (at_builtin;refine wpList_append_eq rfl _ _ _ rfl _ _ rfl rfl HR.out ?_))
    go_roundw
    case rel => exact ⟨k + 1,_,_,_,by go_num,rfl,by omega,by rw [HTK.out,HPE.out];exact HO7.out,HB7.out⟩
    case measure => simp [intOf];omega
  ·
   obtain rfl:k = xn:=by omega
   have HE:Hid ((xs.take k).flatMap (pieceW f l) = xs.flatMap (pieceW f l)):=by rw [Hid,HXN.out,List.take_length]
   have hO:=HI.out.1
   rw [HE.out] at hO
   have HWS:=hid (hO.words (by have:=HW.out;omega) (by have:=HLT.out k;rw [HE.out] at this;exact this))
   have HPK:=hid (run_Pack HK.out HWS.out HW.out)
   clear hO hB0 hkx
   go_wp2_with (go_at_call 152;refine HPK.out.mono ?_;rintro e w6 ⟨v6,rfl,hO6,hb6⟩;obtain ⟨a6,c6,rfl⟩:=own_form hO6)
   rw [HQ.out]
   exact ⟨_,rfl,hO6.mono HB0.out.size,HB0.out.trans (hb6.mono HB0.out.size)⟩
end Go.Proofs.YtfimpmennkfjcaaGreatDoor
