/- Parts of a proof: texts of the author, merged. No condition of their own. -/
import Derived.Test.YtphkmpnahnakaaaGreatZ02
import Derived.Test.YtphkmpnahnakaaaGreatZ05
import Derived.Test.YtphkmpnahnakaaaGreatZ08
import Derived.Test.YtphkmpnahnakaaaGreatZ11
import Derived.Test.YtphkmpnahnakaaaGreatZ15
import Derived.Test.YtphkmpnahnakaaaGreatZ16
import Derived.Test.YtphkmpnahnakaaaGreatZ17
import Derived.Test.YtphkmpnahnakaaaGreatZ20
import Derived.Test.YtphkmpnahnakaaaGreatZ22
import Derived.Test.YtphkmpnahnakaaaGreatZ25
import Derived.Test.YtphkmpnahnakaaaGreatZ28
import Derived.Test.YtphkmpnahnakaaaGreatZ29
import Derived.StillTailTactics
import Derived.BigRegion
import Derived.Deep.CutBlock
import Derived.Deep.CutRange
import Derived.Deep.RegionLaw
namespace Go.Proofs.YtphkmpnahnakaaaGreat
open Go.RowKit
theorem size_intq (w:World):(sizeOf 3).run Tryz.prog w = .ok 1 w:=by kernel_rfl
theorem Seg.hd1 {P:Program} {t e:TypeId} (ht:P.underlying t = some (.slice e)) (hs:∀ w:World,(sizeOf e).run P w = .ok 1 w) {w:World} {a:Option Addr} {n cap:Nat} {xs:List Value} (h:Seg w (.slice a n cap) 1 n xs) (j:Nat) (hj:j ≤ n) :
  ∃ a' cap',(∀ W,(Instr.slice t (.slice a n cap) none (some (.int .i64 (j:Int))) none).run P W = .ok (.slice a' j cap') W) ∧ Seg w (.slice a' j cap') 1 j (xs.take j):=by
 have hcap:n ≤ cap:=by obtain ⟨_,_,a',cap',hv,h3,_⟩:=h;cases hv;exact h3
 have hr:=fun W => slice_h_run ht hs a n cap j (by omega) W
 have hsb:=Seg.sub h 0 j (by omega) hj
 unfold sliced at hr hsb
 refine ⟨_,_,hr,?_⟩
 simpa using hsb
theorem Seg.tl1 {P:Program} {t e:TypeId} (ht:P.underlying t = some (.slice e)) (hs:∀ w:World,(sizeOf e).run P w = .ok 1 w) {w:World} {a:Option Addr} {n cap:Nat} {xs:List Value} (h:Seg w (.slice a n cap) 1 n xs) (i:Nat) (hi:i ≤ n) :
  ∃ a' cap',(∀ W,(Instr.slice t (.slice a n cap) (some (.int .i64 (i:Int))) none none).run P W = .ok (.slice a' (n - i) cap') W) ∧ Seg w (.slice a' (n - i) cap') 1 (n - i) (xs.drop i):=by
 have hr:=fun W => slice_l_run ht hs a n cap i hi W
 have hsb:=Seg.sub h i n hi (Nat.le_refl _)
 have hl:=h.1
 unfold sliced at hr hsb
 refine ⟨_,_,hr,?_⟩
 rw [List.take_of_length_le (by simp [hl])] at hsb
 simpa using hsb
theorem ints_hd {w:World} {a:Option Addr} {n cap:Nat} {l:List Int} (h:IntsAt w (.slice a n cap) l) (hn:n = l.length) (j:Nat) (hj:j ≤ n) :
  ∃ a' cap',(∀ W,(Instr.slice 33 (.slice a n cap) none (some (.int .i64 (j:Int))) none).run Tryz.prog W = .ok (.slice a' j cap') W) ∧ IntsAt w (.slice a' j cap') (l.take j):=by
 obtain ⟨h1,h2⟩:=h
 rw [← hn] at h1
 obtain ⟨a',c',hr,hs⟩:=Seg.hd1 (P:=Tryz.prog) under_ints size_intq h1 j hj
 refine ⟨a',c',hr,?_,fun x hx => h2 x (List.mem_of_mem_take hx)⟩
 rw [show (l.take j).length = j by rw [List.length_take];omega,List.map_take]
 exact hs
theorem ints_tl {w:World} {a:Option Addr} {n cap:Nat} {l:List Int} (h:IntsAt w (.slice a n cap) l) (hn:n = l.length) (i:Nat) (hi:i ≤ n) :
  ∃ a' cap',(∀ W,(Instr.slice 33 (.slice a n cap) (some (.int .i64 (i:Int))) none none).run Tryz.prog W = .ok (.slice a' (n - i) cap') W) ∧ IntsAt w (.slice a' (n - i) cap') (l.drop i):=by
 obtain ⟨h1,h2⟩:=h
 rw [← hn] at h1
 obtain ⟨a',c',hr,hs⟩:=Seg.tl1 (P:=Tryz.prog) under_ints size_intq h1 i hi
 refine ⟨a',c',hr,?_,fun x hx => h2 x (List.mem_of_mem_drop hx)⟩
 rw [show (l.drop i).length = n - i by rw [List.length_drop];omega,List.map_drop]
 exact hs
theorem ints_single (W:World) (y:Int) (hy:i64ok y):IntsAt (W.alloc (.cells #[.int .i64 y] 3)) (.slice (some ⟨W.heap.size,0,none⟩) 1 1) [y]:=by
 refine ⟨⟨rfl,by simp,_,_,rfl,Nat.le_refl _,by simp,by simp,fun j u hu => ⟨_,_,rfl,?_⟩⟩,by simpa using hy⟩
 rw [Nat.zero_add,cell_of_row _ _ _ #[.int .i64 y] _ (0,0) (heap_alloc_new W _)]
 simpa [intV] using hu
theorem row_mono' {w:World} {base base' size n:Nat} {e:TypeId} {v:Value} {xs:List Value} (h:w.ownsRow base e size v n xs) (hb:base' ≤ base):w.ownsRow base' e size v n xs:=by
 refine ⟨h.1,?_⟩
 rcases h.2 with h2 | ⟨g,cap,cur,hv,hg,h3⟩
 ·
  exact .inl h2
 ·
  exact .inr ⟨g,cap,cur,hv,by omega,h3⟩
theorem ins_chain {w:World} {base i k:Nat} {oa:Option Addr} {oc:Nat} {l:List Int} (h:IntsAt w (.slice oa i oc) l) (hi:i = l.length) (hi40:i ≤ 549755813888) (hk:k ≤ i) (y:Int) (hy:i64ok y) (hb:base ≤ w.heap.size) :
  ∃ a5 c5 a6 c6 w6 a8 c8 w8 a9 c9 a10 c10 w10,
   (∀ W,(Instr.slice 33 (.slice oa i oc) none (some (.int .i64 (k:Int))) none).run Tryz.prog W = .ok (.slice a5 k c5) W) ∧
   (Builtin.append_ #[33,33] 33 #[.slice (some ⟨w.heap.size,0,none⟩) 0 0,.slice a5 k c5]).run Tryz.prog (w.alloc (.cells #[] 3)) = .ok (.slice a6 k c6) w6 ∧
   (Builtin.append_ #[33,33] 33 #[.slice a6 k c6,.slice (some ⟨w6.heap.size,0,none⟩) 1 1]).run Tryz.prog (w6.alloc (.cells #[.int .i64 y] 3)) = .ok (.slice a8 (k + 1) c8) w8 ∧
   (∀ W,(Instr.slice 33 (.slice oa i oc) (some (.int .i64 (k:Int))) none none).run Tryz.prog W = .ok (.slice a9 (i - k) c9) W) ∧
   (Builtin.append_ #[33,33] 33 #[.slice a8 (k + 1) c8,.slice a9 (i - k) c9]).run Tryz.prog w8 = .ok (.slice a10 (i + 1) c10) w10 ∧
   IntsOwn w10 base (.slice a10 (i + 1) c10) (l.take k ++ y :: l.drop k) ∧ Below w.heap.size w w10:=by
 have own0:IntsOwn (w.alloc (.cells #[] 3)) w.heap.size (.slice (some ⟨w.heap.size,0,none⟩) 0 0) []:=World.ownsRow_made (base:=w.heap.size) (e:=3) (size:=1) w #[] 0 (Nat.le_refl _) (by unfold maxLen;omega) rfl
 have hA:Below w.heap.size w (w.alloc (.cells #[] 3)):=(Below.refl _ _).alloc (Nat.le_refl _) _
 obtain ⟨a5,c5,hs5,I5⟩:=ints_hd h hi k hk
 have hl5:(l.take k).length = k:=by rw [List.length_take];omega
 obtain ⟨v6,w6,hr6,own6,hg6,-⟩:=ints_append own0 (I5.below hA) (by rw [hl5];simp;omega) (by simp)
 have hB6:Below w.heap.size w w6:=hA.grown hg6 (by simp) (by intro q e;simp [Value.ownBlock] at e;omega)
 obtain ⟨a6,c6,e6⟩:=own6.form
 rw [List.nil_append,hl5] at e6
 rw [List.nil_append] at own6
 subst e6
 have hA6:Below w6.heap.size w6 (w6.alloc (.cells #[.int .i64 y] 3)):=(Below.refl _ _).alloc (Nat.le_refl _) _
 obtain ⟨v8,w8,hr8,own8,hg8,-⟩:=ints_append (own6.later hA6) (ints_single w6 y hy) (by rw [hl5];simp;omega) (by have:=hB6.size;simp;omega)
 have hB8:Below w.heap.size w w8:=(hB6.alloc hB6.size _).grown hg8 (by have:=hB6.size;simp;omega) (fun q e => (World.ownsRow.lt own6 q e).1)
 obtain ⟨a8,c8,e8⟩:=own8.form
 rw [List.length_append,hl5] at e8
 have e8':v8 = .slice a8 (k + 1) c8:=e8
 subst e8'
 obtain ⟨a9,c9,hs9,I9⟩:=ints_tl h hi k hk
 have hl9:(l.drop k).length = i - k:=by rw [List.length_drop];omega
 obtain ⟨v10,w10,hr10,own10,hg10,-⟩:=ints_append own8 (I9.below hB8) (by rw [List.length_append,hl5,hl9];simp;omega) hB8.size
 have hB10:Below w.heap.size w w10:=hB8.grown hg10 hB8.size (fun q e => (World.ownsRow.lt own8 q e).1)
 obtain ⟨a10,c10,e10⟩:=own10.form
 have hl10:(l.take k ++ [y] ++ l.drop k).length = i + 1:=by simp only [List.length_append,hl5,hl9,List.length_singleton];omega
 rw [hl10] at e10
 subst e10
 refine ⟨a5,c5,a6,c6,w6,a8,c8,w8,a9,c9,a10,c10,w10,hs5,hr6,hr8,hs9,hr10,?_,hB10⟩
 rw [List.append_assoc] at own10
 exact row_mono' own10 hb
set_option maxRecDepth 100000 in
set_option maxHeartbeats 8000000 in
theorem ref07_Sorted {w:World} {v:Value} {fs:List Fld} (nm:ByteArray) (h:FieldsAt w v fs) (hl:fs.length ≤ 549755813888) :
  Calls Tryz.prog 37 #[.agg #[.string nm,v]] w fun e w' => ∃ v',e = .returned v' ∧ IntsOwn w' w.heap.size v' (sortedF fs) ∧ Below w.heap.size w w':=by
 have HF:=hid h
 obtain ⟨-,a,cap,rfl,-⟩:=h.open
 obtain ⟨n,HN⟩:∃ n,Hid (n = fs.length):=⟨_,rfl⟩
 rw [← HN.out] at hl HF ⊢
 obtain ⟨w1,HW1⟩:∃ w1,Hid (w1 = w.alloc (.cells #[.string nm,.slice a n cap] 51)):=⟨_,rfl⟩
 have hb1:Below w.heap.size w w1:=by rw [HW1.out];(repeat (first | with_reducible exact Below.refl _ _ | with_reducible refine Below.setCell ?_ (by first | omega | (simp;omega) | (simp;done)) _ | with_reducible refine Below.alloc ?_ (by first | omega | (simp;omega) | (simp;done)) _ | with_reducible refine below_drewN ?_ _ | with_reducible refine Below.drew ?_))
 have hbx:Blk w1 w.heap.size [.string nm,.slice a n cap] 51:=by rw [HW1.out];exact Blk.new w [.string nm,.slice a n cap] _
 have HB1:=hid hb1
 have HBX:=hid hbx
 have HAT:Hid (∀ k,k < n → ∃ b o,a = some ⟨b,o,none⟩ ∧ w1.cell? ⟨b,o + k * 6 + 1,none⟩ = some (.int .i64 (numAt fs (k:Int)))):=by
  obtain ⟨-,a',cap',he,hat⟩:=(HF.out.below hb1).open
  cases he
  intro k hk
  obtain ⟨b,o,ha,-,-,g1,-⟩:=hat k (by rw [← HN.out];exact hk)
  exact ⟨b,o,ha,g1⟩
 obtain ⟨Q,HQ⟩:∃ Q:Ending → World → Prop,Hid (Q = fun e w' => ∃ v',e = .returned v' ∧ IntsOwn w' w.heap.size v' (sortedF fs) ∧ Below w.heap.size w w'):=⟨_,rfl⟩
 rw [← HQ.out]
 clear h hb1 hbx
 go_enter Tryz.func37,Tryz.ntmps37
 go_wp2_with fail
 rw [← HW1.out]
 go_loopw [3,4] (fun v3 v4 wr => ∃ i:Nat,v4 = .int .i64 (i:Int) ∧ i ≤ n ∧ Hid (IntsOwn wr w.heap.size v3 (sortF fs i) ∧ Below w1.heap.size w1 wr)) (fun _ v4 _ => n - (intOf v4).toNat)
 case atStart => exact ⟨0,rfl,by omega,World.ownsRow_nil _ _ _ _,Below.refl _ _⟩
 case round =>
  obtain ⟨i,rfl,hi,HI⟩:=hrel
  obtain ⟨oa,oc,hoe⟩:=HI.out.1.form
  rw [sortF_len] at hoe
  subst hoe
  have k1:=(HBX.out.below HI.out.2).cell 1 _ rfl
  by_cases hlt:i < n
  ·
   obtain ⟨pw,HPW⟩:∃ pw,Hid (pw = posF fs (i:Int) (sortF fs i)):=⟨_,rfl⟩
   have hpw:pw ≤ i:=by have:=posF_le fs (i:Int) (sortF fs i);rw [sortF_len] at this;rw [HPW.out];exact this
   have HPF:=hid (posF_from fs (i:Int) (sortF fs i))
   rw [← HPW.out] at HPF
   obtain ⟨b,o,ha,g1⟩:=HAT.out i hlt
   have hix:=index_run Tryz.underlying49 size_fld ha i hlt (cap:=cap)
   have HG1:=hid g1
   have HA:=hid ha
   have HIA:Hid (IntsAt wr (.slice oa i oc) (sortF fs i)):=HI.out.1.ints (by rw [sortF_len];omega) (fun x hx => by
    have:=upTo_mem.1 ((sortF_ok fs i).1.mem_iff.1 hx)
    constructor <;> omega)
   have HBW:Hid (Below w.heap.size w wr):=HB1.out.trans (HI.out.2.mono HB1.out.size)
   obtain ⟨wo,rfl⟩:∃ wo:World,wo = wr:=⟨_,rfl⟩
   clear g1 ha
   go_wp2_with fail
   go_loopw [5] (fun v5 wr => ∃ k:Nat,v5 = .int .i64 (k:Int) ∧ k ≤ pw ∧ Hid (Drew wo wr)) (fun v5 _ => pw - (intOf v5).toNat)
   case atStart => exact ⟨0,rfl,by omega,Drew.refl _⟩
   case round =>
    obtain ⟨k,rfl,hk,HD⟩:=hrel
    replace k1:=HD.out.keeps _ _ k1
    have g1:=HD.out.keeps _ _ (below_keeps HI.out.2 _ _ HG1.out)
    obtain ⟨y,HY⟩:∃ y,Hid (y = numAt fs (i:Int)):=⟨_,rfl⟩
    rw [← HY.out] at g1
    by_cases hki:k < i
    ·
     obtain ⟨u,hu⟩:∃ u,(sortF fs i)[k]? = some u:=⟨_,List.getElem?_eq_getElem (by rw [sortF_len];exact hki)⟩
     have hub:=upTo_mem.1 ((sortF_ok fs i).1.mem_iff.1 (List.mem_of_getElem? hu))
     obtain ⟨q,rfl⟩:∃ q:Nat,u = q:=⟨u.toNat,by omega⟩
     have hqn:q < n:=by omega
     obtain ⟨b2,o2,ha2,g2⟩:=HAT.out q hqn
     have hix2:=index_run Tryz.underlying49 size_fld ha2 q hqn (cap:=cap)
     replace g2:=HD.out.keeps _ _ (below_keeps HI.out.2 _ _ g2)
     obtain ⟨x,HX⟩:∃ x,Hid (x = numAt fs (q:Int)):=⟨_,rfl⟩
     rw [← HX.out] at g2
     obtain ⟨-,oa',oc',hoe,-,hoat⟩:=HIA.out.open
     rw [sortF_len] at hoe
     cases hoe
     obtain ⟨-,b3,o3,ha3,g3⟩:=hoat k _ hu
     have hix3:=index_run1 Tryz.underlying33 size_intq ha3 k hki (cap:=oc)
     replace g3:=HD.out.keeps _ _ g3
     have HU:=hid hu
     clear hu hub ha2 hoat ha3
     by_cases hkp:k < pw
     ·
      have hle:x ≤ y:=by
       obtain ⟨u,hu,h1⟩:=HPF.out.1 k hkp
       rw [HU.out] at hu;cases hu
       rw [HX.out,HY.out];exact h1
      have hd:decide (x ≤ y) = true:=decide_eq_true hle
      clear hle
      go_wp2_with fail
      go_quiet (fail)
      go_wp2_with fail
      go_roundw
      case rel => exact ⟨k + 1,by go_num,hkp,HD.out.step _⟩
      case measure => simp [intOf];omega
     ·
      obtain rfl:k = pw:=by omega
      have hd:decide (x ≤ y) = false:=decide_eq_false (by have:=HPF.out.2 _ HU.out;rw [HX.out,HY.out];omega)
      clear hkp
      go_wp2_with fail
      go_quiet (fail)
      obtain ⟨w3,HW3⟩:∃ w3,Hid (w3 = wr.drewN nq):=⟨_,rfl⟩
      have HD3:Hid (Drew wo w3):=by rw [HW3.out];exact HD.out.step _
      rw [← HW3.out]
      have hbo:Below wo.heap.size wo w3:=HD3.out.below
      obtain ⟨a5,c5,a6,c6,w6,a8,c8,w8,a9,c9,a10,c10,w10,hs5,hr6,hr8,hs9,hr10,own10,hB10⟩:=ins_chain (base:=w.heap.size) (k:=k) (HIA.out.below hbo) (sortF_len fs i).symm (by omega) hpw (i:Int) (by constructor <;> omega) (Nat.le_trans HBW.out.size hbo.size)
      have HREL:Hid (IntsOwn w10 w.heap.size (.slice a10 (i + 1) c10) (sortF fs (i + 1)) ∧ Below w1.heap.size w1 w10):=by
       refine ⟨?_,below_step (below_step HI.out.2 hbo HI.out.2.size) hB10 (Nat.le_trans HI.out.2.size hbo.size)⟩
       rw [sortF,insF,← HPW.out];exact own10
      clear hbo own10 hB10
      go_wp2_with (at_builtin;first | refine wpList_append_eq (o:=⟨some 42,_,_,_,_,_⟩) rfl _ _ _ rfl _ _ rfl rfl hr6 ?_ | refine wpList_append_eq (o:=⟨some 46,_,_,_,_,_⟩) rfl _ _ _ rfl _ _ rfl rfl hr8 ?_ | refine wpList_append_eq (o:=⟨some 51,_,_,_,_,_⟩) rfl _ _ _ rfl _ _ rfl rfl hr10 ?_)
      go_roundw
      case rel => exact ⟨i + 1,by go_num,hlt,HREL.out⟩
      case measure => simp [intOf];omega
    ·
     have hd1:decide ((k:Int) < (i:Int)) = false:=decide_eq_false (by omega)
     have hd2:decide (k < i) = false:=decide_eq_false hki
     obtain rfl:k = pw:=by omega
     have HKI:=hid hki
     clear hki
     go_wp2_with fail
     go_quiet (fail)
     obtain ⟨w3,HW3⟩:∃ w3,Hid (w3 = wr.drewN nq):=⟨_,rfl⟩
     have HD3:Hid (Drew wo w3):=by rw [HW3.out];exact HD.out.step _
     rw [← HW3.out]
     have hbo:Below wo.heap.size wo w3:=HD3.out.below
     obtain ⟨a5,c5,a6,c6,w6,a8,c8,w8,a9,c9,a10,c10,w10,hs5,hr6,hr8,hs9,hr10,own10,hB10⟩:=ins_chain (base:=w.heap.size) (k:=k) (HIA.out.below hbo) (sortF_len fs i).symm (by omega) hpw (i:Int) (by constructor <;> omega) (Nat.le_trans HBW.out.size hbo.size)
     have HREL:Hid (IntsOwn w10 w.heap.size (.slice a10 (i + 1) c10) (sortF fs (i + 1)) ∧ Below w1.heap.size w1 w10):=by
      refine ⟨?_,below_step (below_step HI.out.2 hbo HI.out.2.size) hB10 (Nat.le_trans HI.out.2.size hbo.size)⟩
      rw [sortF,insF,← HPW.out];exact own10
     clear hbo own10 hB10
     go_wp2_with (at_builtin;first | refine wpList_append_eq (o:=⟨some 42,_,_,_,_,_⟩) rfl _ _ _ rfl _ _ rfl rfl hr6 ?_ | refine wpList_append_eq (o:=⟨some 46,_,_,_,_,_⟩) rfl _ _ _ rfl _ _ rfl rfl hr8 ?_ | refine wpList_append_eq (o:=⟨some 51,_,_,_,_,_⟩) rfl _ _ _ rfl _ _ rfl rfl hr10 ?_)
     go_roundw
     case rel => exact ⟨i + 1,by go_num,hlt,HREL.out⟩
     case measure => simp [intOf];omega
  ·
   obtain rfl:i = n:=by omega
   go_wp2_with fail
   rw [HQ.out]
   have h1:sortF fs i = sortedF fs:=by rw [sortedF,← HN.out]
   have h2:=HI.out.1
   rw [h1] at h2
   exact ⟨_,rfl,h2,HB1.out.trans (HI.out.2.mono HB1.out.size)⟩
end Go.Proofs.YtphkmpnahnakaaaGreat
namespace Go.Proofs.YtphkmpnahnakaaaGreat
open Go.RowKit Go.Shelf
theorem own_form' {w:World} {base:Nat} {v:Value} {l:List UInt8} (h:Own w base v l):∃ a n c,v = .slice a n c:=by
 obtain ⟨a,c,e⟩:=own_form h;exact ⟨a,_,c,e⟩
end Go.Proofs.YtphkmpnahnakaaaGreat
namespace Go.Proofs.YtphkmpnahnakaaaGreat
open Go.RowKit
structure PutAt (B O:Nat) (out:List UInt8) (ov:Value) (w:World):Prop where
 box:Blk w O [ov] 24
 own:Own w B ov out
 off:∀ b,ov.ownBlock = some b → b ≠ O
structure PStep (O:Nat) (ov:Value) (w w':World):Prop where
 os:w'.os = w.os
 tape:w'.tape = w.tape
 output:w'.output = w.output
 size:w.heap.size ≤ w'.heap.size
 block:∀ b,b < w.heap.size → b ≠ O → w'.heap[b]? = w.heap[b]?
theorem PStep.trans {O:Nat} {ov ov':Value} {w w1 w2:World} (h:PStep O ov w w1) (h2:PStep O ov' w1 w2):PStep O ov w w2:=
 ⟨h2.os.trans h.os,h2.tape.trans h.tape,h2.output.trans h.output,Nat.le_trans h.size h2.size,fun b hb hn => (h2.block b (Nat.lt_of_lt_of_le hb h.size) hn).trans (h.block b hb hn)⟩
theorem PStep.of {O:Nat} {ov:Value} {w w':World} (h:Below w.heap.size w w'):PStep O ov w w':=⟨h.os,h.tape,h.output,h.size,fun b hb _ => h.block b hb⟩
theorem PStep.below {O B:Nat} {ov:Value} {w w':World} (h:PStep O ov w w') (hB:B ≤ O) (hs:B ≤ w.heap.size):Below B w w':=⟨h.os,h.tape,h.output,h.size,fun b hb => h.block b (by omega) (by omega)⟩
theorem PStep.blk {O b:Nat} {ov:Value} {w w':World} {cs:List Value} {T:TypeId} (h:PStep O ov w w') (hb:Blk w b cs T) (hn:b ≠ O):Blk w' b cs T:=(h.block b hb.lt hn).trans hb
theorem PStep.cell {O b j:Nat} {ov u:Value} {w w':World} (h:PStep O ov w w') (hn:b ≠ O) (hc:w.cell? ⟨b,j,none⟩ = some u):w'.cell? ⟨b,j,none⟩ = some u:=
 (World.cell?_of_block (h.block b (World.block_lt_of_cell? w _ hc) hn)).trans hc
theorem PutAt.later {B O:Nat} {out:List UInt8} {ov:Value} {w w':World} (h:PutAt B O out ov w) (hb:Below w.heap.size w w'):PutAt B O out ov w':=
 ⟨h.box.below hb,h.own.below_of hb,h.off⟩
set_option maxRecDepth 100000 in
set_option maxHeartbeats 4000000 in
theorem norm_put {w:World} {B O F:Nat} {f:Fld} {ov vt:Value} {out t:List UInt8} (hp:PutAt B O out ov w) (hB:B ≤ w.heap.size) (hF:Blk w F f.cells 48) (n x:Nat) (hn:f.number = n) (h:tagOk n x = true) (hl:out.length ≤ 549755813888) (hvt:Bytes w vt t) (ht:t.length ≤ 549755813888) (hf:rfits x t = true) :
  Calls Tryz.prog 82 #[.int .i64 x,vt,.pointer (some ⟨O,0,none⟩),.pointer (some ⟨F,0,none⟩)] w fun e w' => e = .returned (.tuple #[]) ∧ ∃ ov',PutAt B O (out ++ rput f.number x t) ov' w' ∧ PStep O ov w w':=by
 have HP:=hid hp
 have HBB:=hid hB
 have HRP:=hid (record_Put n x h (hp.own.bytes (by omega)) hl hvt ht hf)
 have c0:=hp.box.cell 0 _ rfl
 have z0:=hp.box.free 0
 have l0:=hp.box.lt
 have c1:=hF.cell 1 _ rfl
 have lF:=hF.lt
 obtain ⟨oa,on,oc,rfl⟩:=own_form' hp.own
 obtain ⟨-,ta,tcap,rfl,-⟩:=hvt.open
 rw [hn] at c1 ⊢
 clear hp hF h hvt ht hf hl hB
 obtain ⟨Q,HQ⟩:∃ Q:Ending → World → Prop,Hid (Q = fun e w' => e = .returned (.tuple #[]) ∧ ∃ ov',PutAt B O (out ++ rput (n:Int) x t) ov' w' ∧ PStep O (.slice oa on oc) w w'):=⟨_,rfl⟩
 rw [← HQ.out]
 go_enter Tryz.func82,Tryz.ntmps82
 go_wp2_with (go_at_call 83;refine HRP.out.mono ?_;rintro e w1 ⟨v1,rfl,hO1,hb1⟩;obtain ⟨a1,n1,k1,rfl⟩:=own_form' hO1;have q0:=below_keeps hb1 _ _ c0;have hbx:=HP.out.box.below hb1;have q1:=hbx.free 0;have q2:=hbx.lt;have HX:=hid hbx;have HO1:=hid hO1;have HB1:=hid hb1;clear hO1 hb1 hbx)
 rw [HQ.out]
 go_end0
 have hk:∀ b,b ≠ O → (w1.setCell ⟨O,0,none⟩ (.slice a1 n1 k1)).heap[b]? = w1.heap[b]?:=fun b hb => Below.heap_setCell _ _ _ b (by show b ≠ O;exact hb)
 have hg:w1.grownBy (w1.setCell ⟨O,0,none⟩ (.slice a1 n1 k1)) (some O):=cell_grown _ _ _
 refine ⟨rfl,_,⟨by simpa using HX.out.set 0 (.slice a1 n1 k1),?_,fun b e => ?_⟩,⟨hg.os.trans HB1.out.os,hg.tape.trans HB1.out.tape,hg.output.trans HB1.out.output,Nat.le_trans HB1.out.size hg.size,fun b hb hn => (hk b hn).trans (HB1.out.block b hb)⟩⟩
 ·
  have hO:=HO1.out
  have h2:Own (w1.setCell ⟨O,0,none⟩ (.slice a1 n1 k1)) w.heap.size (.slice a1 n1 k1) (out ++ rput (n:Int) x t):=by
   unfold Own at hO ⊢
   exact owned_keep hO fun b e => hk b (by have:=(World.ownsRow.lt hO b e).1;omega)
  exact h2.mono HBB.out
 ·
  have hO:=HO1.out
  unfold Own at hO
  have:=(World.ownsRow.lt hO b e).1;omega
theorem norm_put2 {w:World} {B O F:Nat} {f:Fld} {ov vt:Value} {out t:List UInt8} (hp:PutAt B O out ov w) (hB:B ≤ w.heap.size) (hF:Blk w F f.cells 48) (n:Nat) (hn:f.number = n) (h:tagOk n 2 = true) (hl:out.length ≤ 549755813888) (hvt:Bytes w vt t) (ht:t.length ≤ 549755813888) :
  Calls Tryz.prog 82 #[.int .i64 2,vt,.pointer (some ⟨O,0,none⟩),.pointer (some ⟨F,0,none⟩)] w fun e w' => e = .returned (.tuple #[]) ∧ ∃ ov',PutAt B O (out ++ rput f.number 2 t) ov' w' ∧ PStep O ov w w':=
 norm_put hp hB hF n 2 hn h hl hvt ht (rfits2 t)
end Go.Proofs.YtphkmpnahnakaaaGreat
namespace Go.Proofs.YtphkmpnahnakaaaGreat
open Go.RowKit
end Go.Proofs.YtphkmpnahnakaaaGreat
namespace Go.Proofs.YtphkmpnahnakaaaGreat
open Go.RowKit
theorem views_at {w:World} {a:Option Addr} {n c base:Nat} {T:TypeId} {l:List VW} (h:RowsOwn viewP T 7 0 base w (.slice a n c) l) (hl:l.length ≤ 140737488355328) (k:Nat) (x:VW) (hk:l[k]? = some x) :
  ∃ b o,a = some ⟨b,o,none⟩ ∧ base ≤ b ∧ b < w.heap.size ∧ ∀ j u,x.cells[j]? = some u → w.cell? ⟨b,o + k * 7 + j,none⟩ = some u:=by
 have hown:=h.own
 obtain ⟨rows,g1,g2,⟨-,-,a',cap',he,-,-,-,g3⟩,g4⟩:=h.at hl (w':=w) (fun _ _ _ => rfl)
 have hkl:=(List.getElem?_eq_some_iff.1 hk).1
 obtain ⟨r,hr⟩:∃ r,rows[k]? = some r:=⟨_,List.getElem?_eq_getElem (by omega)⟩
 have hx:r = x.cells:=g4 k r x hr hk
 cases he
 have hfl:∀ j u,x.cells[j]? = some u → rows.flatten[k * 7 + j]? = some u:=by
  intro j u hu
  have hj:j < 7:=by
   have:=(List.getElem?_eq_some_iff.1 hu).1
   simpa [VW.cells,viewL] using this
  rw [flatten_get rows k j r g2 hr hj,hx];exact hu
 obtain ⟨b,o,ha,-⟩:=g3 (k * 7) _ (by simpa using hfl 0 _ (by rfl))
 cases ha
 obtain ⟨h1,h2⟩:=hown b rfl
 refine ⟨b,o,rfl,h1,h2,fun j u hu => ?_⟩
 obtain ⟨b',o',ha',hc⟩:=g3 (k * 7 + j) u (hfl j u hu)
 cases ha'
 rw [Nat.add_assoc];exact hc
end Go.Proofs.YtphkmpnahnakaaaGreat
namespace Go.Proofs.YtphkmpnahnakaaaGreat
open Go.RowKit
def ViewsAt (w:World) (v:Value) (l:List VW):Prop:=∃ a c,v = .slice a l.length c ∧ l.length ≤ 1099511627776 ∧ ∀ (k:Nat) (x:VW),l[k]? = some x → ∃ b o,a = some ⟨b,o,none⟩ ∧ ∀ j u,x.cells[j]? = some u → w.cell? ⟨b,o + k * 7 + j,none⟩ = some u
theorem ViewsAt.keep {w w':World} {v:Value} {l:List VW} (h:ViewsAt w v l) (hk:∀ p u,w.cell? p = some u → w'.cell? p = some u):ViewsAt w' v l:=by
 obtain ⟨a,c,h1,h2,h3⟩:=h
 refine ⟨a,c,h1,h2,fun k x hx => ?_⟩
 obtain ⟨b,o,ha,hc⟩:=h3 k x hx
 exact ⟨b,o,ha,fun j u hu => hk _ _ (hc j u hu)⟩
theorem views_read {w:World} {v:Value} {base:Nat} {T:TypeId} {l:List VW} (h:RowsOwn viewP T 7 0 base w v l) (hl:l.length ≤ 1099511627776):ViewsAt w v l:=by
 obtain ⟨a,c,rfl⟩:=h.form
 refine ⟨a,c,rfl,hl,fun k x hx => ?_⟩
 obtain ⟨b,o,ha,-,-,hc⟩:=views_at h (by omega) k x hx
 exact ⟨b,o,ha,hc⟩
end Go.Proofs.YtphkmpnahnakaaaGreat
namespace Go.Proofs.YtphkmpnahnakaaaGreat
open Go.RowKit
theorem flat_take {α β:Type} (g:α → List β) {l:List α} {k:Nat} {x:α} (h:l[k]? = some x):(l.take (k + 1)).flatMap g = (l.take k).flatMap g ++ g x:=by
 rw [List.take_add_one,h,List.flatMap_append];simp
theorem flat_take_le {α β:Type} (g:α → List β) (l:List α) (k:Nat):((l.take k).flatMap g).length ≤ (l.flatMap g).length:=by
 conv => rhs;rw [← List.take_append_drop k l,List.flatMap_append,List.length_append]
 omega
set_option maxRecDepth 100000 in
set_option maxHeartbeats 8000000 in
theorem norm_numbers {w:World} {f:Fld} {bv v:Value} {l:List UInt8} {xs:List VW} (hk:knumber f.kind = true) (hb:Bytes w bv l) (hl:l.length ≤ 1099511627776) (hv:ViewsAt w v xs) (hx:∀ x ∈ xs,x.r.at' ≤ x.r.to ∧ x.r.to ≤ l.length)
  (hw:(xs.flatMap (pieceW f l)).length ≤ 68719476736) :
  Calls Tryz.prog 85 #[f.val,bv,v] w fun e w' => ∃ v',e = .returned v' ∧ Own w' w.heap.size v' (kpack f.kind (xs.flatMap (pieceW f l))) ∧ Below w.heap.size w w':=by
 have HK:=hid hk
 have HB:=hid hb
 have HL:=hid hl
 have HX:=hid hx
 have HW:=hid hw
 have HLT:Hid (∀ k,∀ y ∈ (xs.take k).flatMap (pieceW f l),y < 2 ^ 64):=fun k y hy => by
  obtain ⟨z,-,hz⟩:=List.mem_flatMap.1 hy
  exact pieceW_lt hz
 obtain ⟨-,va,vcap,rfl,-⟩:=hb.open
 obtain ⟨xa,xc,rfl,hxl,hxc⟩:=hv
 have HXC:=hid hxc
 obtain ⟨ln,HLN⟩:∃ n,Hid (n = l.length):=⟨_,rfl⟩
 obtain ⟨xn,HXN⟩:∃ n,Hid (n = xs.length):=⟨_,rfl⟩
 rw [← HLN.out] at HB HL HX ⊢
 rw [← HXN.out] at hxl ⊢
 obtain ⟨X,HXX⟩:∃ X,Hid (X = w.heap.size):=⟨_,rfl⟩
 obtain ⟨W1,HW1⟩:∃ W,Hid (W = w.alloc (.cells #[.string f.name,.int .i64 f.number,.int .i64 f.kind,.bool f.rep,.bool f.packed,.int .i64 f.of] 48)):=⟨_,rfl⟩
 have hb1:Below w.heap.size w W1:=by rw [HW1.out];exact (Below.refl _ _).alloc (Nat.le_refl _) _
 have hk1:Blk W1 X f.cells 48:=by rw [HW1.out,HXX.out];exact Blk.new w [.string f.name,.int .i64 f.number,.int .i64 f.kind,.bool f.rep,.bool f.packed,.int .i64 f.of] _
 have HB1:=hid hb1
 have HK1:=hid hk1
 have HZ1:Hid (w.heap.size ≤ W1.heap.size):=hb1.size
 obtain ⟨Q,HQ⟩:∃ Q:Ending → World → Prop,Hid (Q = fun e w' => ∃ v',e = .returned v' ∧ Own w' w.heap.size v' (kpack f.kind (xs.flatMap (pieceW f l))) ∧ Below w.heap.size w w'):=⟨_,rfl⟩
 rw [← HQ.out]
 clear hk hb hl hx hw hxc hb1 hk1
 rw [show f.val = .agg #[.string f.name,.int .i64 f.number,.int .i64 f.kind,.bool f.rep,.bool f.packed,.int .i64 f.of] from rfl]
 go_enter Tryz.func85,Tryz.ntmps85
 go_wp2_with fail
 rw [← HW1.out,← HXX.out]
 go_loopw [7,19] (fun v7 v19 wr => ∃ (k:Nat) (wa:Option Addr) (wn wc:Nat),v19 = .int .i64 (k:Int) ∧ v7 = .slice wa wn wc ∧ k ≤ xn ∧ Hid (WordsOwn wr W1.heap.size (.slice wa wn wc) ((xs.take k).flatMap (pieceW f l)) ∧ Below W1.heap.size W1 wr)) (fun _ v19 _ => xn - (intOf v19).toNat)
 case atStart => exact ⟨0,none,0,0,rfl,rfl,by omega,World.ownsRow_nil _ _ _ _,Below.refl _ _⟩
 case round =>
  obtain ⟨k,wa,wn,wc,rfl,rfl,hkn,HI⟩:=hrel
  have hB0:Below w.heap.size w wr:=HB1.out.trans (HI.out.2.mono HZ1.out)
  have HB0:=hid hB0
  have hkx:=HK1.out.below HI.out.2
  have c2:=hkx.cell 2 _ rfl
  have lx:=hkx.lt
  by_cases hlt:k < xn
  ·
   obtain ⟨x,hx⟩:∃ x,xs[k]? = some x:=⟨_,List.getElem?_eq_getElem (by rw [← HXN.out];exact hlt)⟩
   obtain ⟨vb,vo,haa,hvc⟩:=HXC.out k x hx
   subst haa
   have hcv:∀ j u,x.cells[j]? = some u → wr.cell? ⟨vb,vo + k * 7 + j,none⟩ = some u:=fun j u hu => below_keeps hB0 _ _ (hvc j u hu)
   have n0:=hcv 0 _ rfl
   have n1:=hcv 1 _ rfl
   have n2:=hcv 2 _ rfl
   have n3:=hcv 3 _ rfl
   have n4:=hcv 4 _ rfl
   have n5:=hcv 5 _ rfl
   have n6:=hcv 6 _ rfl
   rw [Nat.add_zero] at n0
   obtain ⟨hx1,hx2⟩:=HX.out x (List.mem_of_getElem? hx)
   have HTK:Hid ((xs.take (k + 1)).flatMap (pieceW f l) = (xs.take k).flatMap (pieceW f l) ++ pieceW f l x):=flat_take _ hx
   have HLE:Hid (((xs.take k).flatMap (pieceW f l)).length ≤ 68719476736 ∧ ((xs.take (k + 1)).flatMap (pieceW f l)).length ≤ 68719476736):=by
    have h1:=flat_take_le (pieceW f l) xs k
    have h2:=flat_take_le (pieceW f l) xs (k + 1)
    have:=HW.out
    exact ⟨by omega,by omega⟩
   obtain ⟨pw,HPW⟩:∃ pw,Hid (pw = pieceW f l x):=⟨_,rfl⟩
   rw [← HPW.out] at HTK
   obtain ⟨⟨x1,x2,x3,x4,x5⟩,xk,xrun⟩:=x
   simp only at n0 n1 n2 n3 n4 n5 n6 hx1 hx2
   obtain ⟨W6,HW6⟩:∃ W6,Hid (W6 = wr.alloc (.cells #[.int .i64 x1,.int .i64 x2,.int .i64 x3,.int .i64 x4,.int .i64 x5,.int .i64 xk,.bool xrun] 109)):=⟨_,rfl⟩
   obtain ⟨VB,HVB⟩:∃ VB,Hid (VB = wr.heap.size):=⟨_,rfl⟩
   have hb6:Below wr.heap.size wr W6:=by rw [HW6.out];exact (Below.refl _ _).alloc (Nat.le_refl _) _
   have hv6:Blk W6 VB [.int .i64 x1,.int .i64 x2,.int .i64 x3,.int .i64 x4,.int .i64 x5,.int .i64 xk,.bool xrun] 109:=by rw [HW6.out,HVB.out];exact Blk.new wr [.int .i64 x1,.int .i64 x2,.int .i64 x3,.int .i64 x4,.int .i64 x5,.int .i64 xk,.bool xrun] _
   have hO6:=HI.out.1.later hb6
   have hB16:Below W1.heap.size W1 W6:=HI.out.2.trans (hb6.mono HI.out.2.size)
   have HO6:=hid hO6
   have HB16:=hid hB16
   obtain ⟨pa,pc,hcut,-,hby⟩:=(HB.out.below (HB0.out.trans (hb6.mono hB0.size))).cut HLN.out x4 x5 hx1 hx2
   obtain ⟨y,HY⟩:∃ y,Hid (y = (l.drop x4).take (x5 - x4)):=⟨_,rfl⟩
   rw [← HY.out] at hby
   have HBY:=hid hby
   have HYV:Hid (y = vbytes l ⟨⟨x1,x2,x3,x4,x5⟩,xk,xrun⟩):=HY.out
   have HYL:Hid (y.length ≤ 1099511627776):=by have h:=HL.out;show _ ≤ _;rw [HY.out,List.length_take];omega
   have hkx6:=hkx.below hb6
   have HKX6:=hid hkx6
   have HZ6:Hid (W1.heap.size ≤ W6.heap.size):=hB16.size
   have d3:=hv6.cell 3 _ rfl
   have d4:=hv6.cell 4 _ rfl
   have d6:=hv6.cell 6 _ rfl
   have e2:=hkx6.cell 2 _ rfl
   have lv:=hv6.lt
   have lx6:=hkx6.lt
   have HV6:=hid hv6
   clear hvc hcv hx hb6 hv6 hO6 hB16 hby hkx hkx6 hB0 c2 lx HI
   go_upto_region 5 with fail
   rw [← HW6.out,← HVB.out]
   clear n0 n1 n2 n3 n4 n5 n6
   have HPT:Hid (∀ u ∈ pw,u < 2 ^ 64):=by rw [HPW.out];exact fun u hu => pieceW_lt hu
   have HPL:Hid (((xs.take k).flatMap (pieceW f l)).length + pw.length ≤ 68719476736):=by
    have h:=HLE.out.2
    rw [HTK.out,List.length_append] at h
    exact h
   cases xrun with
   | true =>
    have HPE:Hid (pw = (runWords f.kind y).1):=by
     rw [Hid,HPW.out,HYV.out];unfold pieceW;rw [if_pos rfl]
    have HRW:=hid (run_Words HBY.out HYL.out f.kind HK.out)
    clear hx1 hx2
    go_wp2_with (first | (go_at_call 113;refine HRW.out.mono ?_;rintro e w6 ⟨v6,rfl,hO6,hb6⟩;rw [← HPE.out] at hO6;obtain ⟨a6,c6',rfl⟩:=hO6.form;obtain ⟨v7,w7,hr,hO7,hg7,hat7⟩:=words_app (HO6.out.later hb6) (hO6.words (by have:=HPL.out;omega) HPT.out) (by have:=HPL.out;omega) (by have:=hb6.size;have:=HZ6.out;omega);obtain ⟨a7,n7,c7,rfl⟩:=hO7.form';have HR:=hid hr;have HO7:=hid hO7;have HB7:Hid (Below W1.heap.size W1 w7):=(HB16.out.trans (hb6.mono HZ6.out)).grown hg7 (by have:=hb6.size;have:=HZ6.out;omega) (fun q e => ((HO6.out.later hb6).own q e).1);clear hr hO7 hg7 hat7 hO6 hb6) | (at_builtin;refine wpList_append_eq rfl _ _ _ rfl _ _ rfl rfl HR.out ?_))
    go_roundw
    case rel => exact ⟨k + 1,_,_,_,by go_num,rfl,by omega,by rw [HTK.out];exact HO7.out,HB7.out⟩
    case measure => simp [intOf];omega
   | false =>
    obtain ⟨zw,HZW⟩:∃ zw,Hid (zw = kread f.kind y):=⟨_,rfl⟩
    obtain ⟨z1,z2⟩:=zw
    have HPE:Hid (pw = [z1]):=by
     rw [Hid,HPW.out];unfold pieceW;rw [if_neg (show ¬ false = true by decide),if_pos HK.out,← HYV.out,← HZW.out]
    have HRD:=hid (scalar_Read HK.out HBY.out)
    rw [← HZW.out] at HRD
    clear hx1 hx2
    go_wp2_with (first | (go_at_call 86;refine HRD.out.mono ?_;rintro e w6 ⟨rfl,hb6⟩;obtain ⟨v7,w7,hr,hO7,hg7,hat7⟩:=word_app1 (HO6.out.later hb6) z1 (by have:=HPL.out;omega) (by have:=hb6.size;have:=HZ6.out;omega);obtain ⟨a7,n7,c7,rfl⟩:=hO7.form';have HR:=hid hr;have HO7:=hid hO7;have HB7:Hid (Below W1.heap.size W1 w7):=(HB16.out.trans (hb6.mono HZ6.out)).grown hg7 (by have:=hb6.size;have:=HZ6.out;omega) (fun q e => ((HO6.out.later hb6).own q e).1);clear hr hO7 hg7 hat7 hb6) | (at_builtin;refine wpList_append_eq rfl _ _ _ rfl _ _ rfl rfl HR.out ?_))
    go_roundw
    case rel => exact ⟨k + 1,_,_,_,by go_num,rfl,by omega,by rw [HTK.out,HPE.out];exact HO7.out,HB7.out⟩
    case measure => simp [intOf];omega
  ·
   obtain rfl:k = xn:=by omega
   have HE:Hid ((xs.take k).flatMap (pieceW f l) = xs.flatMap (pieceW f l)):=by rw [Hid,HXN.out,List.take_length]
   have hO:=HI.out.1
   rw [HE.out] at hO
   have HWS:=hid (hO.words (by have:=HW.out;omega) (by have:=HLT.out k;rw [HE.out] at this;exact this))
   have HPK:=hid (run_Pack HK.out HWS.out HW.out)
   clear hO hB0 hkx
   go_wp2_with (go_at_call 114;refine HPK.out.mono ?_;rintro e w6 ⟨v6,rfl,hO6,hb6⟩;obtain ⟨a6,c6,rfl⟩:=own_form hO6)
   rw [HQ.out]
   exact ⟨_,rfl,hO6.mono HB0.out.size,HB0.out.trans (hb6.mono HB0.out.size)⟩
end Go.Proofs.YtphkmpnahnakaaaGreat
