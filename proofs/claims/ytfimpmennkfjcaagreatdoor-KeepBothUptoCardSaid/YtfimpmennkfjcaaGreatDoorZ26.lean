/- Parts of a proof: texts of the author, merged. No condition of their own. -/
import Derived.Test.YtfimpmennkfjcaaGreatDoorZ02
import Derived.Test.YtfimpmennkfjcaaGreatDoorZ05
import Derived.Test.YtfimpmennkfjcaaGreatDoorZ08
import Derived.Test.YtfimpmennkfjcaaGreatDoorZ09
import Derived.Test.YtfimpmennkfjcaaGreatDoorZ11
import Derived.Test.YtfimpmennkfjcaaGreatDoorZ15
import Derived.Test.YtfimpmennkfjcaaGreatDoorZ16
import Derived.Test.YtfimpmennkfjcaaGreatDoorZ21
import Derived.Test.YtfimpmennkfjcaaGreatDoorZ24
import Derived.Test.YtfimpmennkfjcaaGreatDoorZ25
import Derived.StillTailTactics
import Derived.BigRegion
import Derived.Deep.CutBlock
import Derived.Deep.CutRange
import Derived.Deep.RegionLaw
import Derived.RangeFuncNested
import Derived.RangeFuncBound
import Derived.RangeFuncCalls
import Derived.RangeFuncLeaves
import Derived.Shelf.RegionOpen
namespace Go.Proofs.YtfimpmennkfjcaaGreatDoor
open Go.RowKit
theorem size_intq (w:World):(sizeOf 3).run Tryz.prog w = .ok 1 w:=by kernel_rfl
theorem Seg.hd1 {P:Program} {t e:TypeId} (ht:P.underlying t = some (.slice e)) (hs:∀ w:World,(sizeOf e).run P w = .ok 1 w) {w:World} {a:Option Addr} {n cap:Nat} {xs:List Value} (h:Seg w (.slice a n cap) 1 n xs) (j:Nat) (hj:j ≤ n) :
  ∃ a' cap',(∀ W,(Instr.slice t (.slice a n cap) none (some (.int .i64 (j:Int))) none).run P W = .ok (.slice a' j cap') W) ∧ Seg w (.slice a' j cap') 1 j (xs.take j):=by
 have hcap:n ≤ cap:=by obtain ⟨_,_,a',cap',hv,h3,_⟩:=h;cases hv;exact h3
 have hr:=fun W => slice_h_run ht hs a n cap j (by omega) W
 have hsb:=Seg.sub h 0 j (by omega) hj
 unfold sliced at hr hsb
 refine ⟨_,_,hr,?_⟩
 simpa using hsb
theorem Seg.tl1 {P:Program} {t e:TypeId} (ht:P.underlying t = some (.slice e)) (hs:∀ w:World,(sizeOf e).run P w = .ok 1 w) {w:World} {a:Option Addr} {n cap:Nat} {xs:List Value} (h:Seg w (.slice a n cap) 1 n xs) (i:Nat) (hi:i ≤ n) :
  ∃ a' cap',(∀ W,(Instr.slice t (.slice a n cap) (some (.int .i64 (i:Int))) none none).run P W = .ok (.slice a' (n - i) cap') W) ∧ Seg w (.slice a' (n - i) cap') 1 (n - i) (xs.drop i):=by
 have hr:=fun W => slice_l_run ht hs a n cap i hi W
 have hsb:=Seg.sub h i n hi (Nat.le_refl _)
 have hl:=h.1
 unfold sliced at hr hsb
 refine ⟨_,_,hr,?_⟩
 rw [List.take_of_length_le (by simp [hl])] at hsb
 simpa using hsb
theorem ints_hd {w:World} {a:Option Addr} {n cap:Nat} {l:List Int} (h:IntsAt w (.slice a n cap) l) (hn:n = l.length) (j:Nat) (hj:j ≤ n) :
  ∃ a' cap',(∀ W,(Instr.slice 56 (.slice a n cap) none (some (.int .i64 (j:Int))) none).run Tryz.prog W = .ok (.slice a' j cap') W) ∧ IntsAt w (.slice a' j cap') (l.take j):=by
 obtain ⟨h1,h2⟩:=h
 rw [← hn] at h1
 obtain ⟨a',c',hr,hs⟩:=Seg.hd1 (P:=Tryz.prog) under_ints size_intq h1 j hj
 refine ⟨a',c',hr,?_,fun x hx => h2 x (List.mem_of_mem_take hx)⟩
 rw [show (l.take j).length = j by rw [List.length_take];omega,List.map_take]
 exact hs
theorem ints_tl {w:World} {a:Option Addr} {n cap:Nat} {l:List Int} (h:IntsAt w (.slice a n cap) l) (hn:n = l.length) (i:Nat) (hi:i ≤ n) :
  ∃ a' cap',(∀ W,(Instr.slice 56 (.slice a n cap) (some (.int .i64 (i:Int))) none none).run Tryz.prog W = .ok (.slice a' (n - i) cap') W) ∧ IntsAt w (.slice a' (n - i) cap') (l.drop i):=by
 obtain ⟨h1,h2⟩:=h
 rw [← hn] at h1
 obtain ⟨a',c',hr,hs⟩:=Seg.tl1 (P:=Tryz.prog) under_ints size_intq h1 i hi
 refine ⟨a',c',hr,?_,fun x hx => h2 x (List.mem_of_mem_drop hx)⟩
 rw [show (l.drop i).length = n - i by rw [List.length_drop];omega,List.map_drop]
 exact hs
theorem ints_single (W:World) (y:Int) (hy:i64ok y):IntsAt (W.alloc (.cells #[.int .i64 y] 3)) (.slice (some ⟨W.heap.size,0,none⟩) 1 1) [y]:=by
 refine ⟨⟨rfl,by simp,_,_,rfl,Nat.le_refl _,by simp,by simp,fun j u hu => ⟨_,_,rfl,?_⟩⟩,by simpa using hy⟩
 rw [Nat.zero_add,cell_of_row _ _ _ #[.int .i64 y] _ (0,0) (heap_alloc_new W _)]
 simpa [intV] using hu
theorem row_mono' {w:World} {base base' size n:Nat} {e:TypeId} {v:Value} {xs:List Value} (h:w.ownsRow base e size v n xs) (hb:base' ≤ base):w.ownsRow base' e size v n xs:=by
 refine ⟨h.1,?_⟩
 rcases h.2 with h2 | ⟨g,cap,cur,hv,hg,h3⟩
 ·
  exact .inl h2
 ·
  exact .inr ⟨g,cap,cur,hv,by omega,h3⟩
theorem ins_chain {w:World} {base i k:Nat} {oa:Option Addr} {oc:Nat} {l:List Int} (h:IntsAt w (.slice oa i oc) l) (hi:i = l.length) (hi40:i ≤ 549755813888) (hk:k ≤ i) (y:Int) (hy:i64ok y) (hb:base ≤ w.heap.size) :
  ∃ a5 c5 a6 c6 w6 a8 c8 w8 a9 c9 a10 c10 w10,
   (∀ W,(Instr.slice 56 (.slice oa i oc) none (some (.int .i64 (k:Int))) none).run Tryz.prog W = .ok (.slice a5 k c5) W) ∧
   (Builtin.append_ #[56,56] 56 #[.slice (some ⟨w.heap.size,0,none⟩) 0 0,.slice a5 k c5]).run Tryz.prog (w.alloc (.cells #[] 3)) = .ok (.slice a6 k c6) w6 ∧
   (Builtin.append_ #[56,56] 56 #[.slice a6 k c6,.slice (some ⟨w6.heap.size,0,none⟩) 1 1]).run Tryz.prog (w6.alloc (.cells #[.int .i64 y] 3)) = .ok (.slice a8 (k + 1) c8) w8 ∧
   (∀ W,(Instr.slice 56 (.slice oa i oc) (some (.int .i64 (k:Int))) none none).run Tryz.prog W = .ok (.slice a9 (i - k) c9) W) ∧
   (Builtin.append_ #[56,56] 56 #[.slice a8 (k + 1) c8,.slice a9 (i - k) c9]).run Tryz.prog w8 = .ok (.slice a10 (i + 1) c10) w10 ∧
   IntsOwn w10 base (.slice a10 (i + 1) c10) (l.take k ++ y :: l.drop k) ∧ Below w.heap.size w w10:=by
 have own0:IntsOwn (w.alloc (.cells #[] 3)) w.heap.size (.slice (some ⟨w.heap.size,0,none⟩) 0 0) []:=World.ownsRow_made (base:=w.heap.size) (e:=3) (size:=1) w #[] 0 (Nat.le_refl _) (by unfold maxLen;omega) rfl
 have hA:Below w.heap.size w (w.alloc (.cells #[] 3)):=(Below.refl _ _).alloc (Nat.le_refl _) _
 obtain ⟨a5,c5,hs5,I5⟩:=ints_hd h hi k hk
 have hl5:(l.take k).length = k:=by rw [List.length_take];omega
 obtain ⟨v6,w6,hr6,own6,hg6,-⟩:=ints_append own0 (I5.below hA) (by rw [hl5];simp;omega) (by simp)
 have hB6:Below w.heap.size w w6:=hA.grown hg6 (by simp) (by intro q e;simp [Value.ownBlock] at e;omega)
 obtain ⟨a6,c6,e6⟩:=own6.form
 rw [List.nil_append,hl5] at e6
 rw [List.nil_append] at own6
 subst e6
 have hA6:Below w6.heap.size w6 (w6.alloc (.cells #[.int .i64 y] 3)):=(Below.refl _ _).alloc (Nat.le_refl _) _
 obtain ⟨v8,w8,hr8,own8,hg8,-⟩:=ints_append (own6.later hA6) (ints_single w6 y hy) (by rw [hl5];simp;omega) (by have:=hB6.size;simp;omega)
 have hB8:Below w.heap.size w w8:=(hB6.alloc hB6.size _).grown hg8 (by have:=hB6.size;simp;omega) (fun q e => (World.ownsRow.lt own6 q e).1)
 obtain ⟨a8,c8,e8⟩:=own8.form
 rw [List.length_append,hl5] at e8
 have e8':v8 = .slice a8 (k + 1) c8:=e8
 subst e8'
 obtain ⟨a9,c9,hs9,I9⟩:=ints_tl h hi k hk
 have hl9:(l.drop k).length = i - k:=by rw [List.length_drop];omega
 obtain ⟨v10,w10,hr10,own10,hg10,-⟩:=ints_append own8 (I9.below hB8) (by rw [List.length_append,hl5,hl9];simp;omega) hB8.size
 have hB10:Below w.heap.size w w10:=hB8.grown hg10 hB8.size (fun q e => (World.ownsRow.lt own8 q e).1)
 obtain ⟨a10,c10,e10⟩:=own10.form
 have hl10:(l.take k ++ [y] ++ l.drop k).length = i + 1:=by simp only [List.length_append,hl5,hl9,List.length_singleton];omega
 rw [hl10] at e10
 subst e10
 refine ⟨a5,c5,a6,c6,w6,a8,c8,w8,a9,c9,a10,c10,w10,hs5,hr6,hr8,hs9,hr10,?_,hB10⟩
 rw [List.append_assoc] at own10
 exact row_mono' own10 hb
set_option maxRecDepth 100000 in
set_option maxHeartbeats 8000000 in
theorem ref07_Sorted {w:World} {v:Value} {fs:List Fld} (nm:ByteArray) (h:FieldsAt w v fs) (hl:fs.length ≤ 549755813888) :
  Calls Tryz.prog 41 #[.agg #[.string nm,v]] w fun e w' => ∃ v',e = .returned v' ∧ IntsOwn w' w.heap.size v' (sortedF fs) ∧ Below w.heap.size w w':=by
 have HF:=hid h
 obtain ⟨-,a,cap,rfl,-⟩:=h.open
 obtain ⟨n,HN⟩:∃ n,Hid (n = fs.length):=⟨_,rfl⟩
 rw [← HN.out] at hl HF ⊢
 obtain ⟨w1,HW1⟩:∃ w1,Hid (w1 = w.alloc (.cells #[.string nm,.slice a n cap] 67)):=⟨_,rfl⟩
 have hb1:Below w.heap.size w w1:=by rw [HW1.out];(repeat (first | with_reducible exact Below.refl _ _ | with_reducible refine Below.setCell ?_ (by first | omega | (simp;omega) | (simp;done)) _ | with_reducible refine Below.alloc ?_ (by first | omega | (simp;omega) | (simp;done)) _ | with_reducible refine below_drewN ?_ _ | with_reducible refine Below.drew ?_))
 have hbx:Blk w1 w.heap.size [.string nm,.slice a n cap] 67:=by rw [HW1.out];exact Blk.new w [.string nm,.slice a n cap] _
 have HB1:=hid hb1
 have HBX:=hid hbx
 have HAT:Hid (∀ k,k < n → ∃ b o,a = some ⟨b,o,none⟩ ∧ w1.cell? ⟨b,o + k * 6 + 1,none⟩ = some (.int .i64 (numAt fs (k:Int)))):=by
  obtain ⟨-,a',cap',he,hat⟩:=(HF.out.below hb1).open
  cases he
  intro k hk
  obtain ⟨b,o,ha,-,-,g1,-⟩:=hat k (by rw [← HN.out];exact hk)
  exact ⟨b,o,ha,g1⟩
 obtain ⟨Q,HQ⟩:∃ Q:Ending → World → Prop,Hid (Q = fun e w' => ∃ v',e = .returned v' ∧ IntsOwn w' w.heap.size v' (sortedF fs) ∧ Below w.heap.size w w'):=⟨_,rfl⟩
 rw [← HQ.out]
 clear h hb1 hbx
 go_enter Tryz.func41,Tryz.ntmps41
 go_wp2_with fail
 rw [← HW1.out]
 go_loopw [3,4] (fun v3 v4 wr => ∃ i:Nat,v4 = .int .i64 (i:Int) ∧ i ≤ n ∧ Hid (IntsOwn wr w.heap.size v3 (sortF fs i) ∧ Below w1.heap.size w1 wr)) (fun _ v4 _ => n - (intOf v4).toNat)
 case atStart => exact ⟨0,rfl,by omega,World.ownsRow_nil _ _ _ _,Below.refl _ _⟩
 case round =>
  obtain ⟨i,rfl,hi,HI⟩:=hrel
  obtain ⟨oa,oc,hoe⟩:=HI.out.1.form
  rw [sortF_len] at hoe
  subst hoe
  have k1:=(HBX.out.below HI.out.2).cell 1 _ rfl
  by_cases hlt:i < n
  ·
   obtain ⟨pw,HPW⟩:∃ pw,Hid (pw = posF fs (i:Int) (sortF fs i)):=⟨_,rfl⟩
   have hpw:pw ≤ i:=by have:=posF_le fs (i:Int) (sortF fs i);rw [sortF_len] at this;rw [HPW.out];exact this
   have HPF:=hid (posF_from fs (i:Int) (sortF fs i))
   rw [← HPW.out] at HPF
   obtain ⟨b,o,ha,g1⟩:=HAT.out i hlt
   have hix:=index_run Tryz.underlying65 size_fld ha i hlt (cap:=cap)
   have HG1:=hid g1
   have HA:=hid ha
   have HIA:Hid (IntsAt wr (.slice oa i oc) (sortF fs i)):=HI.out.1.ints (by rw [sortF_len];omega) (fun x hx => by
    have:=upTo_mem.1 ((sortF_ok fs i).1.mem_iff.1 hx)
    constructor <;> omega)
   have HBW:Hid (Below w.heap.size w wr):=HB1.out.trans (HI.out.2.mono HB1.out.size)
   obtain ⟨wo,rfl⟩:∃ wo:World,wo = wr:=⟨_,rfl⟩
   clear g1 ha
   go_wp2_with fail
   go_loopw [5] (fun v5 wr => ∃ k:Nat,v5 = .int .i64 (k:Int) ∧ k ≤ pw ∧ Hid (Drew wo wr)) (fun v5 _ => pw - (intOf v5).toNat)
   case atStart => exact ⟨0,rfl,by omega,Drew.refl _⟩
   case round =>
    obtain ⟨k,rfl,hk,HD⟩:=hrel
    replace k1:=HD.out.keeps _ _ k1
    have g1:=HD.out.keeps _ _ (below_keeps HI.out.2 _ _ HG1.out)
    obtain ⟨y,HY⟩:∃ y,Hid (y = numAt fs (i:Int)):=⟨_,rfl⟩
    rw [← HY.out] at g1
    by_cases hki:k < i
    ·
     obtain ⟨u,hu⟩:∃ u,(sortF fs i)[k]? = some u:=⟨_,List.getElem?_eq_getElem (by rw [sortF_len];exact hki)⟩
     have hub:=upTo_mem.1 ((sortF_ok fs i).1.mem_iff.1 (List.mem_of_getElem? hu))
     obtain ⟨q,rfl⟩:∃ q:Nat,u = q:=⟨u.toNat,by omega⟩
     have hqn:q < n:=by omega
     obtain ⟨b2,o2,ha2,g2⟩:=HAT.out q hqn
     have hix2:=index_run Tryz.underlying65 size_fld ha2 q hqn (cap:=cap)
     replace g2:=HD.out.keeps _ _ (below_keeps HI.out.2 _ _ g2)
     obtain ⟨x,HX⟩:∃ x,Hid (x = numAt fs (q:Int)):=⟨_,rfl⟩
     rw [← HX.out] at g2
     obtain ⟨-,oa',oc',hoe,-,hoat⟩:=HIA.out.open
     rw [sortF_len] at hoe
     cases hoe
     obtain ⟨-,b3,o3,ha3,g3⟩:=hoat k _ hu
     have hix3:=index_run1 Tryz.underlying56 size_intq ha3 k hki (cap:=oc)
     replace g3:=HD.out.keeps _ _ g3
     have HU:=hid hu
     clear hu hub ha2 hoat ha3
     by_cases hkp:k < pw
     ·
      have hle:x ≤ y:=by
       obtain ⟨u,hu,h1⟩:=HPF.out.1 k hkp
       rw [HU.out] at hu;cases hu
       rw [HX.out,HY.out];exact h1
      have hd:decide (x ≤ y) = true:=decide_eq_true hle
      clear hle
      go_wp2_with fail
      go_quiet (fail)
      go_wp2_with fail
      go_roundw
      case rel => exact ⟨k + 1,by go_num,hkp,HD.out.step _⟩
      case measure => simp [intOf];omega
     ·
      obtain rfl:k = pw:=by omega
      have hd:decide (x ≤ y) = false:=decide_eq_false (by have:=HPF.out.2 _ HU.out;rw [HX.out,HY.out];omega)
      clear hkp
      go_wp2_with fail
      go_quiet (fail)
      obtain ⟨w3,HW3⟩:∃ w3,Hid (w3 = wr.drewN nq):=⟨_,rfl⟩
      have HD3:Hid (Drew wo w3):=by rw [HW3.out];exact HD.out.step _
      rw [← HW3.out]
      have hbo:Below wo.heap.size wo w3:=HD3.out.below
      obtain ⟨a5,c5,a6,c6,w6,a8,c8,w8,a9,c9,a10,c10,w10,hs5,hr6,hr8,hs9,hr10,own10,hB10⟩:=ins_chain (base:=w.heap.size) (k:=k) (HIA.out.below hbo) (sortF_len fs i).symm (by omega) hpw (i:Int) (by constructor <;> omega) (Nat.le_trans HBW.out.size hbo.size)
      have HREL:Hid (IntsOwn w10 w.heap.size (.slice a10 (i + 1) c10) (sortF fs (i + 1)) ∧ Below w1.heap.size w1 w10):=by
       refine ⟨?_,below_step (below_step HI.out.2 hbo HI.out.2.size) hB10 (Nat.le_trans HI.out.2.size hbo.size)⟩
       rw [sortF,insF,← HPW.out];exact own10
      clear hbo own10 hB10
      go_wp2_with (at_builtin;first | refine wpList_append_eq (o:=⟨some 42,_,_,_,_,_⟩) rfl _ _ _ rfl _ _ rfl rfl hr6 ?_ | refine wpList_append_eq (o:=⟨some 46,_,_,_,_,_⟩) rfl _ _ _ rfl _ _ rfl rfl hr8 ?_ | refine wpList_append_eq (o:=⟨some 51,_,_,_,_,_⟩) rfl _ _ _ rfl _ _ rfl rfl hr10 ?_)
      go_roundw
      case rel => exact ⟨i + 1,by go_num,hlt,HREL.out⟩
      case measure => simp [intOf];omega
    ·
     have hd1:decide ((k:Int) < (i:Int)) = false:=decide_eq_false (by omega)
     have hd2:decide (k < i) = false:=decide_eq_false hki
     obtain rfl:k = pw:=by omega
     have HKI:=hid hki
     clear hki
     go_wp2_with fail
     go_quiet (fail)
     obtain ⟨w3,HW3⟩:∃ w3,Hid (w3 = wr.drewN nq):=⟨_,rfl⟩
     have HD3:Hid (Drew wo w3):=by rw [HW3.out];exact HD.out.step _
     rw [← HW3.out]
     have hbo:Below wo.heap.size wo w3:=HD3.out.below
     obtain ⟨a5,c5,a6,c6,w6,a8,c8,w8,a9,c9,a10,c10,w10,hs5,hr6,hr8,hs9,hr10,own10,hB10⟩:=ins_chain (base:=w.heap.size) (k:=k) (HIA.out.below hbo) (sortF_len fs i).symm (by omega) hpw (i:Int) (by constructor <;> omega) (Nat.le_trans HBW.out.size hbo.size)
     have HREL:Hid (IntsOwn w10 w.heap.size (.slice a10 (i + 1) c10) (sortF fs (i + 1)) ∧ Below w1.heap.size w1 w10):=by
      refine ⟨?_,below_step (below_step HI.out.2 hbo HI.out.2.size) hB10 (Nat.le_trans HI.out.2.size hbo.size)⟩
      rw [sortF,insF,← HPW.out];exact own10
     clear hbo own10 hB10
     go_wp2_with (at_builtin;first | refine wpList_append_eq (o:=⟨some 42,_,_,_,_,_⟩) rfl _ _ _ rfl _ _ rfl rfl hr6 ?_ | refine wpList_append_eq (o:=⟨some 46,_,_,_,_,_⟩) rfl _ _ _ rfl _ _ rfl rfl hr8 ?_ | refine wpList_append_eq (o:=⟨some 51,_,_,_,_,_⟩) rfl _ _ _ rfl _ _ rfl rfl hr10 ?_)
     go_roundw
     case rel => exact ⟨i + 1,by go_num,hlt,HREL.out⟩
     case measure => simp [intOf];omega
  ·
   obtain rfl:i = n:=by omega
   go_wp2_with fail
   rw [HQ.out]
   have h1:sortF fs i = sortedF fs:=by rw [sortedF,← HN.out]
   have h2:=HI.out.1
   rw [h1] at h2
   exact ⟨_,rfl,h2,HB1.out.trans (HI.out.2.mono HB1.out.size)⟩
end Go.Proofs.YtfimpmennkfjcaaGreatDoor
namespace Go.Proofs.YtfimpmennkfjcaaGreatDoor
open Go.RowKit Go.Shelf
theorem own_form' {w:World} {base:Nat} {v:Value} {l:List UInt8} (h:Own w base v l):∃ a n c,v = .slice a n c:=by
 obtain ⟨a,c,e⟩:=own_form h;exact ⟨a,_,c,e⟩
end Go.Proofs.YtfimpmennkfjcaaGreatDoor
namespace Go.Proofs.YtfimpmennkfjcaaGreatDoor
open Go.RowKit
theorem owned_keep {w w':World} {base size n:Nat} {e:TypeId} {v:Value} {xs:List Value} (h:w.ownsRow base e size v n xs) (hk:∀ b,v.ownBlock = some b → w'.heap[b]? = w.heap[b]?):w'.ownsRow base e size v n xs:=by
 refine ⟨h.1,?_⟩
 rcases h.2 with h | ⟨g,cap,cur,hv,hb,hg,hr⟩
 ·
  exact .inl h
 ·
  exact .inr ⟨g,cap,cur,hv,hb,(hk g (by rw [hv];rfl)).trans hg,hr⟩
end Go.Proofs.YtfimpmennkfjcaaGreatDoor
namespace Go.Proofs.YtfimpmennkfjcaaGreatDoor
open Go.RowKit
structure PutAt (B O:Nat) (out:List UInt8) (ov:Value) (w:World):Prop where
 box:Blk w O [ov] 24
 own:Own w B ov out
 off:∀ b,ov.ownBlock = some b → b ≠ O
structure PStep (O:Nat) (ov:Value) (w w':World):Prop where
 os:w'.os = w.os
 tape:w'.tape = w.tape
 output:w'.output = w.output
 size:w.heap.size ≤ w'.heap.size
 block:∀ b,b < w.heap.size → b ≠ O → w'.heap[b]? = w.heap[b]?
theorem PStep.trans {O:Nat} {ov ov':Value} {w w1 w2:World} (h:PStep O ov w w1) (h2:PStep O ov' w1 w2):PStep O ov w w2:=
 ⟨h2.os.trans h.os,h2.tape.trans h.tape,h2.output.trans h.output,Nat.le_trans h.size h2.size,fun b hb hn => (h2.block b (Nat.lt_of_lt_of_le hb h.size) hn).trans (h.block b hb hn)⟩
theorem PStep.of {O:Nat} {ov:Value} {w w':World} (h:Below w.heap.size w w'):PStep O ov w w':=⟨h.os,h.tape,h.output,h.size,fun b hb _ => h.block b hb⟩
theorem PStep.below {O B:Nat} {ov:Value} {w w':World} (h:PStep O ov w w') (hB:B ≤ O) (hs:B ≤ w.heap.size):Below B w w':=⟨h.os,h.tape,h.output,h.size,fun b hb => h.block b (by omega) (by omega)⟩
theorem PStep.blk {O b:Nat} {ov:Value} {w w':World} {cs:List Value} {T:TypeId} (h:PStep O ov w w') (hb:Blk w b cs T) (hn:b ≠ O):Blk w' b cs T:=(h.block b hb.lt hn).trans hb
theorem PStep.cell {O b j:Nat} {ov u:Value} {w w':World} (h:PStep O ov w w') (hn:b ≠ O) (hc:w.cell? ⟨b,j,none⟩ = some u):w'.cell? ⟨b,j,none⟩ = some u:=
 (World.cell?_of_block (h.block b (World.block_lt_of_cell? w _ hc) hn)).trans hc
theorem PutAt.later {B O:Nat} {out:List UInt8} {ov:Value} {w w':World} (h:PutAt B O out ov w) (hb:Below w.heap.size w w'):PutAt B O out ov w':=
 ⟨h.box.below hb,h.own.below_of hb,h.off⟩
set_option maxRecDepth 100000 in
set_option maxHeartbeats 4000000 in
theorem norm_put {w:World} {B O F:Nat} {f:Fld} {ov vt:Value} {out t:List UInt8} (hp:PutAt B O out ov w) (hB:B ≤ w.heap.size) (hF:Blk w F f.cells 64) (n x:Nat) (hn:f.number = n) (h:tagOk n x = true) (hl:out.length ≤ 549755813888) (hvt:Bytes w vt t) (ht:t.length ≤ 549755813888) (hf:rfits x t = true) :
  Calls Tryz.prog 116 #[.int .i64 x,vt,.pointer (some ⟨O,0,none⟩),.pointer (some ⟨F,0,none⟩)] w fun e w' => e = .returned (.tuple #[]) ∧ ∃ ov',PutAt B O (out ++ rput f.number x t) ov' w' ∧ PStep O ov w w':=by
 have HP:=hid hp
 have HBB:=hid hB
 have HRP:=hid (record_Put n x h (hp.own.bytes (by omega)) hl hvt ht hf)
 have c0:=hp.box.cell 0 _ rfl
 have z0:=hp.box.free 0
 have l0:=hp.box.lt
 have c1:=hF.cell 1 _ rfl
 have lF:=hF.lt
 obtain ⟨oa,on,oc,rfl⟩:=own_form' hp.own
 obtain ⟨-,ta,tcap,rfl,-⟩:=hvt.open
 rw [hn] at c1 ⊢
 clear hp hF h hvt ht hf hl hB
 obtain ⟨Q,HQ⟩:∃ Q:Ending → World → Prop,Hid (Q = fun e w' => e = .returned (.tuple #[]) ∧ ∃ ov',PutAt B O (out ++ rput (n:Int) x t) ov' w' ∧ PStep O (.slice oa on oc) w w'):=⟨_,rfl⟩
 rw [← HQ.out]
 go_enter Tryz.func116,Tryz.ntmps116
 go_wp2_with (go_at_call 117;refine HRP.out.mono ?_;rintro e w1 ⟨v1,rfl,hO1,hb1⟩;obtain ⟨a1,n1,k1,rfl⟩:=own_form' hO1;have q0:=below_keeps hb1 _ _ c0;have hbx:=HP.out.box.below hb1;have q1:=hbx.free 0;have q2:=hbx.lt;have HX:=hid hbx;have HO1:=hid hO1;have HB1:=hid hb1;clear hO1 hb1 hbx)
 rw [HQ.out]
 go_end0
 have hk:∀ b,b ≠ O → (w1.setCell ⟨O,0,none⟩ (.slice a1 n1 k1)).heap[b]? = w1.heap[b]?:=fun b hb => Below.heap_setCell _ _ _ b (by show b ≠ O;exact hb)
 have hg:w1.grownBy (w1.setCell ⟨O,0,none⟩ (.slice a1 n1 k1)) (some O):=cell_grown _ _ _
 refine ⟨rfl,_,⟨by simpa using HX.out.set 0 (.slice a1 n1 k1),?_,fun b e => ?_⟩,⟨hg.os.trans HB1.out.os,hg.tape.trans HB1.out.tape,hg.output.trans HB1.out.output,Nat.le_trans HB1.out.size hg.size,fun b hb hn => (hk b hn).trans (HB1.out.block b hb)⟩⟩
 ·
  have hO:=HO1.out
  have h2:Own (w1.setCell ⟨O,0,none⟩ (.slice a1 n1 k1)) w.heap.size (.slice a1 n1 k1) (out ++ rput (n:Int) x t):=by
   unfold Own at hO ⊢
   exact owned_keep hO fun b e => hk b (by have:=(World.ownsRow.lt hO b e).1;omega)
  exact h2.mono HBB.out
 ·
  have hO:=HO1.out
  unfold Own at hO
  have:=(World.ownsRow.lt hO b e).1;omega
theorem norm_put2 {w:World} {B O F:Nat} {f:Fld} {ov vt:Value} {out t:List UInt8} (hp:PutAt B O out ov w) (hB:B ≤ w.heap.size) (hF:Blk w F f.cells 64) (n:Nat) (hn:f.number = n) (h:tagOk n 2 = true) (hl:out.length ≤ 549755813888) (hvt:Bytes w vt t) (ht:t.length ≤ 549755813888) :
  Calls Tryz.prog 116 #[.int .i64 2,vt,.pointer (some ⟨O,0,none⟩),.pointer (some ⟨F,0,none⟩)] w fun e w' => e = .returned (.tuple #[]) ∧ ∃ ov',PutAt B O (out ++ rput f.number 2 t) ov' w' ∧ PStep O ov w w':=
 norm_put hp hB hF n 2 hn h hl hvt ht (rfits2 t)
end Go.Proofs.YtfimpmennkfjcaaGreatDoor
namespace Go.Proofs.YtfimpmennkfjcaaGreatDoor
open Go.RowKit Go.Shelf
attribute [local go_sem] Oper.semAt_some
theorem Bytes.sub {w:World} {a:Option Addr} {n cap:Nat} {l:List UInt8} (h:Bytes w (.slice a n cap) l) (hn:n = l.length) (i j:Nat) (hij:i ≤ j) (hj:j ≤ n):Bytes w (sliced a i j cap 1) (part l i j):=by
 subst hn
 have hs:=Seg.sub h i j hij hj
 unfold Bytes part
 rw [List.length_take,List.length_drop,Nat.min_eq_left (by omega),List.map_take,List.map_drop]
 simpa using hs
end Go.Proofs.YtfimpmennkfjcaaGreatDoor
namespace Go.Proofs.YtfimpmennkfjcaaGreatDoor
open Go.RowKit
set_option maxRecDepth 100000 in
set_option maxHeartbeats 4000000 in
theorem record_span {w:World} {v:Value} {l:List UInt8} (h:Bytes w v l) (i j:Nat) (hij:i ≤ j) (hj:j ≤ l.length) :
  Calls Tryz.prog 111 #[v,.int .i64 (i:Int),.int .i64 (j:Int)] w fun e w' => ∃ v',e = .returned v' ∧ Own w' w.heap.size v' (part l i j) ∧ Below w.heap.size w w':=by
 obtain ⟨hlen,a,cap,rfl,-⟩:=h.open
 have hcap:l.length ≤ cap:=by obtain ⟨_,_,a',c',e',h3,_⟩:=h;cases e';exact h3
 have hsl:=slice_lh_run under_bytes size_u8 a l.length cap i j (by omega) (by omega)
 have hxb:=h.sub rfl i j hij hj
 obtain ⟨sv,HSV⟩:∃ sv,Hid (sliced a i j cap 1 = sv):=⟨_,rfl⟩
 rw [HSV.out] at hsl hxb
 have HC:=hid (clone_bytes hxb)
 obtain ⟨n,HN⟩:∃ n,Hid (n = l.length):=⟨_,rfl⟩
 rw [← HN.out] at hlen hcap hsl hj ⊢
 obtain ⟨Q,HQ⟩:∃ Q:Ending → World → Prop,Hid (Q = fun e w' => ∃ v',e = .returned v' ∧ Own w' w.heap.size v' (part l i j) ∧ Below w.heap.size w w'):=⟨_,rfl⟩
 rw [← HQ.out]
 clear h hxb
 go_enter Tryz.func111,Tryz.ntmps111
 go_wp2_with (go_at_call 136;refine HC.out.mono ?_;rintro e w1 ⟨o,rfl,hown,hb1⟩)
 rw [HQ.out]
 exact ⟨_,rfl,hown,hb1⟩
end Go.Proofs.YtfimpmennkfjcaaGreatDoor
namespace Go.Proofs.YtfimpmennkfjcaaGreatDoor
open Go.RowKit
def viewP (_:World) (r:List Value) (x:VW):Prop:=r = x.cells
def AllPost (w:World) (T:TypeId) (k:Nat → Value) (x:List VW × Nat × Nat) (e:Ending) (w':World):Prop:=
 ∃ v' base,e = .returned (.tuple #[v',.int .i64 (x.2.1:Nat),k x.2.2]) ∧ w.heap.size ≤ base ∧ RowsOwn viewP T 7 0 base w' v' x.1 ∧ Below w.heap.size w w'
theorem info_view:(Tryz.prog.info? 140).map (fun i => (i.zero,i.size,i.bytes)) = some (some (.agg #[.int .i64 0,.int .i64 0,.int .i64 0,.int .i64 0,.int .i64 0,.int .i64 0,.bool false]),7,56):=by kernel_rfl
set_option maxRecDepth 100000 in
set_option maxHeartbeats 8000000 in
theorem view_All {w:World} {v vf:Value} {l:List UInt8} {fs:List Fld} (h:Bytes w v l) (hl:l.length ≤ 1099511627776) (hf:FieldsAt w vf fs) (nm:ByteArray) :
  Calls Tryz.prog 92 #[.agg #[.string nm,vf],v] w (AllPost w 140 (fun c => .int .u8 (c:Int)) (vall fs l)):=by
 have HLL:=hid hl
 obtain ⟨hlen,a,cap,rfl,-,-,-,-⟩:=h.open
 obtain ⟨-,fa,fc,rfl,-⟩:=hf.open
 obtain ⟨n,HN⟩:∃ n,Hid (n = l.length):=⟨_,rfl⟩
 obtain ⟨fn,HFN⟩:∃ n,Hid (n = fs.length):=⟨_,rfl⟩
 rw [← HN.out] at hlen HLL hl h ⊢
 rw [← HFN.out] at hf ⊢
 obtain ⟨w1,HW1⟩:∃ w1,Hid (w1 = w.alloc (.cells #[.string nm,.slice fa fn fc] 67)):=⟨_,rfl⟩
 have hb1:Below w.heap.size w w1:=by rw [HW1.out];(repeat (first | with_reducible exact Below.refl _ _ | with_reducible refine Below.setCell ?_ (by first | omega | (simp;omega) | (simp;done)) _ | with_reducible refine Below.alloc ?_ (by first | omega | (simp;omega) | (simp;done)) _ | with_reducible refine below_drewN ?_ _ | with_reducible refine Below.drew ?_))
 have hbx:Blk w1 w.heap.size [.string nm,.slice fa fn fc] 67:=by rw [HW1.out];exact Blk.new w [.string nm,.slice fa fn fc] _
 have HB1:=hid hb1
 have HBX:=hid hbx
 have HV:=hid (h.below hb1)
 have HF:=hid (hf.below hb1)
 obtain ⟨Q,HQ⟩:∃ Q:Ending → World → Prop,Hid (Q = AllPost w 140 (fun c => .int .u8 (c:Int)) (vall fs l)):=⟨_,rfl⟩
 rw [← HQ.out]
 clear h hf hb1 hbx
 go_enter Tryz.func92,Tryz.ntmps92
 go_wp2_with fail
 rw [← HW1.out]
 go_loopw [7,8,9,10] (fun v7 v8 _ _ wr => ∃ (pre:List VW) (oa:Option Addr) (m oc at':Nat),v7 = .slice oa m oc ∧ v8 = .int .i64 at' ∧ at' ≤ n ∧ m ≤ at' ∧ Hid (m = pre.length ∧ (∃ fuel,n - at' ≤ fuel ∧ vall fs l = glueV pre (vallGo fs l fuel at')) ∧ Below w1.heap.size w1 wr ∧ RowsOwn viewP 140 7 0 w1.heap.size wr (.slice oa m oc) pre)) (fun _ v8 _ _ _ => n - (intOf v8).toNat)
 case atStart => exact ⟨[],none,0,0,0,rfl,rfl,by omega,by omega,rfl,⟨l.length,by have:=HN.out;omega,by rw [glueV_nil];rfl⟩,Below.refl _ _,RowsOwn.nil _ _ _ _ _ _⟩
 case round =>
  obtain ⟨pre,oa,m,oc,at',rfl,rfl,hat,hmat,HI⟩:=hrel
  have hbx:=HBX.out.below HI.out.2.2.1
  have c0:=hbx.cell 0 _ rfl
  have c1:=hbx.cell 1 _ rfl
  have hsz:=hbx.lt
  have HBW:Hid (Below w.heap.size w wr):=HB1.out.trans (HI.out.2.2.1.mono HB1.out.size)
  clear hbx
  by_cases hlt:at' < n
  ·
   obtain ⟨r,k,run,c,HR⟩:∃ r k run c,Hid (vlook fs l at' = (r,k,run,c)):=⟨_,_,_,_,rfl⟩
   have hlk:=view_Look (HV.out.below HI.out.2.2.1) (HF.out.below HI.out.2.2.1) nm at' (by omega)
   rw [HR.out] at hlk
   have HLK:=hid hlk
   obtain ⟨rn,rw',rs,ra,rt⟩:=r
   simp only [viewV] at HLK
   clear hlk
   by_cases hc:c = 0
   ·
    subst hc
    have hok:at' < rt ∧ rt ≤ n:=by
     have:=vlook_ok (fs:=fs) (l:=l) (i:=at') (by rw [HR.out])
     rw [HR.out,← HN.out] at this
     exact ⟨this.2.1,this.2.2.1⟩
    have HST:Hid (∃ fuel,n - rt ≤ fuel ∧ vall fs l = glueV (pre ++ [⟨⟨rn,rw',rs,ra,rt⟩,k,run⟩]) (vallGo fs l fuel rt)):=by
     obtain ⟨fuel,h1,h2⟩:=HI.out.2.1
     obtain ⟨f',rfl⟩:∃ f',fuel = f' + 1:=⟨fuel - 1,by omega⟩
     exact ⟨f',by omega,by rw [h2,glueV_step (by rw [← HN.out];exact hlt) HR.out]⟩
    go_wp2_with fail
    refine HLK.out.mono ?_
    rintro e w2 ⟨rfl,hb1⟩
    have hb2:=hb1.alloc hb1.size (.cells #[.int .i64 rn,.int .i64 rw',.int .i64 rs,.int .i64 ra,.int .i64 rt,.int .i64 k,.bool run] 140)
    have hk2:=Blk.new w2 [.int .i64 rn,.int .i64 rw',.int .i64 rs,.int .i64 ra,.int .i64 rt,.int .i64 k,.bool run] 140
    have hX:wr.heap.size ≤ w2.heap.size:=hb1.size
    go_wp2_with fail
    generalize hW2:w2.alloc (.cells #[.int .i64 rn,.int .i64 rw',.int .i64 rs,.int .i64 ra,.int .i64 rt,.int .i64 k,.bool run] 140) = W2 at *
    clear hW2
    generalize w2.heap.size = X at *
    clear hb1 c0 c1 hsz
    obtain ⟨a5,c5,w5,hr5,hO5,hB4,hB5,hk5⟩:=RowsOwn.step2 HI.out.2.2.2 hb2.drew (by decide) (by omega) HI.out.2.2.1.size HI.out.1.symm 135 _ 56 Tryz.underlying135 info_view rfl #[.int .i64 rn,.int .i64 rw',.int .i64 rs,.int .i64 ra,.int .i64 rt,.int .i64 k,.bool run] rfl (by intro u hu;simp at hu;rcases hu with rfl | rfl | rfl | rfl | rfl | rfl | rfl <;> rfl) ⟨⟨rn,rw',rs,ra,rt⟩,k,run⟩ (fun _ _ => rfl) (by have:=HLL.out;omega) (by decide)
    have hkd:Blk W2.drew X [.int .i64 rn,.int .i64 rw',.int .i64 rs,.int .i64 ra,.int .i64 rt,.int .i64 k,.bool run] 140:=hk2
    have hke:Blk (W2.alloc (.cells #[.int .i64 rn,.int .i64 rw',.int .i64 rs,.int .i64 ra,.int .i64 rt,.int .i64 k,.bool run] 140)).drew X [.int .i64 rn,.int .i64 rw',.int .i64 rs,.int .i64 ra,.int .i64 rt,.int .i64 k,.bool run] 140:=hkd.alloc (.cells #[.int .i64 rn,.int .i64 rw',.int .i64 rs,.int .i64 ra,.int .i64 rt,.int .i64 k,.bool run] 140)
    have hkf:Blk w5 X [.int .i64 rn,.int .i64 rw',.int .i64 rs,.int .i64 ra,.int .i64 rt,.int .i64 k,.bool run] 140:=(hk5 X hX hk2.lt).trans hkd
    have k0:=And.intro (hkd.cell 0 _ rfl) (And.intro (hkd.cell 1 _ rfl) (And.intro (hkd.cell 2 _ rfl) (And.intro (hkd.cell 3 _ rfl) (And.intro (hkd.cell 4 _ rfl) (And.intro (hkd.cell 5 _ rfl) (hkd.cell 6 _ rfl))))))
    have k1:=And.intro (hke.cell 0 _ rfl) (And.intro (hke.cell 1 _ rfl) (And.intro (hke.cell 2 _ rfl) (And.intro (hke.cell 3 _ rfl) (And.intro (hke.cell 4 _ rfl) (And.intro (hke.cell 5 _ rfl) (hke.cell 6 _ rfl))))))
    have k3:=And.intro (hkf.cell 0 _ rfl) (And.intro (hkf.cell 1 _ rfl) (And.intro (hkf.cell 2 _ rfl) (And.intro (hkf.cell 3 _ rfl) (And.intro (hkf.cell 4 _ rfl) (And.intro (hkf.cell 5 _ rfl) (hkf.cell 6 _ rfl))))))
    have hXl:=hk2.lt
    have HR5:Hid ((Builtin.append_ #[135,135] 135 #[.slice oa m oc,.slice (some ⟨W2.heap.size,0,none⟩) 1 1]).run Tryz.prog (W2.alloc (.cells #[.int .i64 rn,.int .i64 rw',.int .i64 rs,.int .i64 ra,.int .i64 rt,.int .i64 k,.bool run] 140)).drew = .ok (.slice a5 (m + 1) c5) w5):=hr5
    have HO5:=hid hO5
    have HB5:Hid (Below w1.heap.size wr w5):=hB5
    clear hkd hke hkf hr5 hO5 hB4 hB5 hk5 hb2 hk2
    go_region_held3 (fun w' => w'.cell? ⟨X,0,none⟩ = some (.int .i64 rn) ∧ w'.cell? ⟨X,1,none⟩ = some (.int .i64 rw') ∧ w'.cell? ⟨X,2,none⟩ = some (.int .i64 rs) ∧ w'.cell? ⟨X,3,none⟩ = some (.int .i64 ra) ∧ w'.cell? ⟨X,4,none⟩ = some (.int .i64 rt) ∧ w'.cell? ⟨X,5,none⟩ = some (.int .i64 k) ∧ w'.cell? ⟨X,6,none⟩ = some (.bool run)) (first | (with_reducible exact k0) | (with_reducible exact k1) | (with_reducible exact k3) | go_keep) (first | (refine step_append_eq rfl (.tmp 26) (.tmp 28) _ rfl _ _ rfl rfl HR5.out ?_))
    go_wp2_with fail
    go_roundw
    case rel => exact ⟨pre ++ [⟨⟨rn,rw',rs,ra,rt⟩,k,run⟩],_,_,_,rt,rfl,rfl,hok.2,by have:=hok.1;omega,by rw [List.length_append,← HI.out.1];rfl,HST.out,HI.out.2.2.1.trans HB5.out,HO5.out⟩
    case measure => simp [intOf];have:=hok.1;omega
   ·
    have HE:Hid (vall fs l = ([],at',c)):=by
     obtain ⟨fuel,h1,h2⟩:=HI.out.2.1
     obtain ⟨f',rfl⟩:∃ f',fuel = f' + 1:=⟨fuel - 1,by omega⟩
     rw [Hid,h2,glueV_bad (by rw [← HN.out];exact hlt) (by rw [HR.out]) hc]
    have hc1:((c:Int) != 0) = true:=by simp;exact hc
    have hc2:((c:Int) == 0) = false:=by simp;exact hc
    clear hc
    go_wp2_with fail
    refine HLK.out.mono ?_
    rintro e w2 ⟨rfl,hb1⟩
    have HB2:Hid (Below w.heap.size w w2):=below_step HBW.out hb1 HBW.out.size
    clear hb1
    go_wp2_with fail
    rw [HQ.out,HE.out]
    go_ret3
    exact ⟨_,w.heap.size,rfl,Nat.le_refl _,RowsOwn.nil _ _ _ _ _ _,HB2.out.alloc HB2.out.size _⟩
  ·
   obtain rfl:at' = n:=by omega
   have HE:Hid (vall fs l = (pre,0,0)):=by
    obtain ⟨fuel,h1,h2⟩:=HI.out.2.1
    rw [Hid,h2,glueV_end (by rw [← HN.out];omega)]
   go_wp2_with fail
   rw [HQ.out,HE.out]
   go_ret3
   exact ⟨_,w1.heap.size,rfl,HB1.out.size,HI.out.2.2.2,HBW.out⟩
end Go.Proofs.YtfimpmennkfjcaaGreatDoor
