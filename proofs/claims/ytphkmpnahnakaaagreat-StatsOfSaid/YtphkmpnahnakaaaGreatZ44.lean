/- darninglaw28.StatsOf returns true. No condition. -/
import Derived.Test.YtphkmpnahnakaaaGreatZ15
import Derived.Test.YtphkmpnahnakaaaGreatZ21
import Derived.Test.YtphkmpnahnakaaaGreatZ24
import Derived.Test.YtphkmpnahnakaaaGreatZ36
import Derived.Test.YtphkmpnahnakaaaGreatZ40
import Derived.Test.YtphkmpnahnakaaaGreatZ43
import Derived.Laws.StructEq
namespace Go.Proofs.YtphkmpnahnakaaaGreat
open Go.RowKit Go.Shelf Go.Sort
set_option maxRecDepth 100000 in
theorem rrow_equal (w:World) (a b:ByteArray × Int × Int × Int):(Op.equal 41 (rowK a) (rowK b)).run Tryz.prog w = .ok (decide (a = b)) w:=by
 obtain ⟨a1,a2,a3,a4⟩:=a
 obtain ⟨b1,b2,b3,b4⟩:=b
 have hp:Tryz.prog.stoodInHeld 41 = false:=by kernel_rfl
 simp only [rowK]
 simp [Op.equal,Op.maxDepth,go_sem,hp,toList_inj]
 by_cases h1:a1 = b1 <;> by_cases h2:a2 = b2 <;> by_cases h3:a3 = b3 <;> by_cases h4:a4 = b4 <;> simp [h1,h2,h3,h4]
theorem rrow_neq (p:ByteArray) (x y z:Int) (w:World):(binOp .neq 41 (.agg #[.string p,.int .i64 x,.int .i64 y,.int .i64 z]) (.agg #[.string p,.int .i64 x,.int .i64 y,.int .i64 z])).run Tryz.prog w = .ok (.bool false) w:=by
 have h:=rrow_equal w (p,x,y,z) (p,x,y,z)
 simp only [rowK,decide_true] at h
 simp [binOp,h,Result.andThen]
theorem rows_cons {w:World} {q:Value} {m:List SR} (hq:SegR w q m) (hlen:m.length ≤ 1073741824) (p:ByteArray) (a b c:Nat) :
  ∃ a2 c2 w2,(Builtin.append_ #[38,38] 38 #[.slice (some ⟨w.heap.size,0,none⟩) 1 1,q]).run Tryz.prog (w.alloc (.cells #[.string p,.int .i64 (a:Int),.int .i64 (b:Int),.int .i64 (c:Int)] 41)) = .ok (.slice a2 (m.length + 1) c2) w2 ∧
   SegR w2 (.slice a2 (m.length + 1) c2) (⟨p,a,b,c⟩ :: m) ∧ Below w.heap.size w w2:=by
 have hb0:Below w.heap.size w (w.alloc (.cells #[.string p,.int .i64 (a:Int),.int .i64 (b:Int),.int .i64 (c:Int)] 41)):=(Below.refl _ _).alloc (Nat.le_refl _) _
 have hk:=Blk.new w [.string p,.int .i64 (a:Int),.int .i64 (b:Int),.int .i64 (c:Int)] 41
 have h0:(w.alloc (.cells #[.string p,.int .i64 (a:Int),.int .i64 (b:Int),.int .i64 (c:Int)] 41)).ownsRow w.heap.size 41 4 (.slice (some ⟨w.heap.size,0,none⟩) 1 1) 1 (srC ⟨p,a,b,c⟩):=⟨rfl,.inr ⟨w.heap.size,1,_,rfl,Nat.le_refl _,hk,Nat.le_refl _,by unfold maxLen;omega,rfl,rfl⟩⟩
 obtain ⟨v2,w2,e2,o2,g2,-⟩:=seg_append (P:=Tryz.prog) _ w.heap.size 38 38 41 (.agg #[.string ⟨#[]⟩,.int .i64 0,.int .i64 0,.int .i64 0]) 4 40 Tryz.underlying38 info_rrow rfl (by decide) _ _ 1 m.length (srC ⟨p,a,b,c⟩) _ h0 (hq.below hb0) (srC_one m) (by omega) (by omega) hb0.size
 have hb2:Below w.heap.size w w2:=hb0.grown g2 hb0.size (by intro q e;simp [Value.ownBlock] at e;omega)
 have hS:SegR w2 v2 (⟨p,a,b,c⟩ :: m):=by
  unfold SegR
  rw [List.length_cons,List.flatMap_cons]
  have:=row_seg o2 (by omega)
  rw [Nat.add_comm] at this
  exact this
 obtain ⟨a2,c2,hv2,-⟩:=hS.open
 rw [List.length_cons] at hv2
 subst hv2
 exact ⟨a2,c2,w2,e2,hS,hb2⟩
theorem keys_sorted {ss:List (List UInt8)} (hd:((ss.mergeSort fun x y:List UInt8 => decide (x ≤ y)).map mkB).Nodup) :
  SortK ((ss.mergeSort fun x y:List UInt8 => decide (x ≤ y)).map mkB):=by
 have h1:(ss.mergeSort fun x y:List UInt8 => decide (x ≤ y)).Pairwise fun x y => decide (x ≤ y) = true:=
  List.pairwise_mergeSort (fun a b c h1 h2 => by simp only [decide_eq_true_eq] at *;exact List.le_trans h1 h2) (fun a b => by simp only [Bool.or_eq_true,decide_eq_true_eq];exact List.le_total a b) ss
 unfold SortK
 rw [List.pairwise_map]
 have hd':(ss.mergeSort fun x y:List UInt8 => decide (x ≤ y)).Pairwise fun x y => mkB x ≠ mkB y:=List.pairwise_map.1 hd
 refine (h1.and hd').imp fun {a b} h => ?_
 obtain ⟨h2,h3⟩:=h
 have h2:a ≤ b:=of_decide_eq_true h2
 show a < b
 by_cases hlt:a < b
 ·
  exact hlt
 ·
  exact absurd (congrArg mkB (List.le_antisymm h2 (List.not_lt.1 hlt))) h3
theorem segR_nil (w:World):SegR w (.slice none 0 0) []:=rowsOwn_segT (RowsOwn.nil srP 41 4 0 0 w) (by decide) (Below.refl _ _)
set_option maxRecDepth 100000 in
set_option maxHeartbeats 16000000 in
theorem law28_StatsOf {w:World} {vs bv:Value} {s:List Mes} {y:List UInt8} (hS:SchemaAt w vs s) (hb:Bytes w bv y) (root d:Int) :
  Calls Tryz.prog 3 #[vs,.int .i64 root,bv,.int .i64 d] w fun e w' => e = .returned (.bool true) ∧ Below w.heap.size w w':=by
 have HS:=hid hS
 have HB:=hid hb
 obtain ⟨-,sa,sc,rfl,-⟩:=hS.open
 obtain ⟨hyl,a2,c2,rfl,-⟩:=hb.open
 obtain ⟨sn,HSN⟩:∃ n,Hid (n = s.length):=⟨_,rfl⟩
 obtain ⟨ny,HNY⟩:∃ n,Hid (n = y.length):=⟨_,rfl⟩
 rw [← HSN.out] at HS ⊢
 rw [← HNY.out] at HB hyl ⊢
 obtain ⟨R,HR⟩:∃ R:Ending → World → Prop,Hid (R = fun e w' => e = .returned (.bool true) ∧ Below w.heap.size w w'):=⟨_,rfl⟩
 rw [← HR.out]
 have HTRUE:Hid (∀ w',Below w.heap.size w w' → R (.returned (.bool true)) w'):=fun w' hb => by rw [HR.out];exact ⟨rfl,hb⟩
 obtain ⟨z,HZ⟩:∃ z,Hid (z = (vcheck s root y d).2):=⟨_,rfl⟩
 obtain ⟨zp,HZP⟩:∃ z,Hid (z = (vcheck s root y d).1):=⟨_,rfl⟩
 clear hS hb HR
 go_enter Tryz.func3,Tryz.ntmps3
 go_wp2_with fail
 refine (law28_alive _).mono ?_
 rintro e w1 ⟨rfl,hb1⟩
 have HB1:=hid hb1
 clear hb1
 go_wp2_with fail
 refine (law07_Few (HS.out.keep (below_keeps HB1.out))).mono ?_
 rintro e w2 ⟨⟨fw,rfl⟩,hb2⟩
 have HB2:=hid (HB1.out.trans (hb2.mono HB1.out.size))
 clear hb2
 cases fw with
 | false =>
  go_wp2_with fail
  exact HTRUE.out _ HB2.out
 | true =>
  by_cases hlong:(1000:Int) < ny
  ·
   go_wp2_with fail
   exact HTRUE.out _ HB2.out
  ·
   have hlen:y.length ≤ 1000:=by have:=HNY.out;omega
   have HLEN:=hid hlen
   have HO1:=hid (stats_Of (HS.out.below HB2.out) (HB.out.below HB2.out) (by omega) root d)
   unfold OfPost at HO1
   rw [← HZ.out] at HO1
   have HSAV:=hid (fun (W:World) (hW:Below w.heap.size w W) => stats_Saved (HS.out.below hW) (HB.out.below hW) (by omega) root d)
   unfold SavPost at HSAV
   rw [← HZ.out,← HNY.out] at HSAV
   have HDEP:=hid (fun (W:World) (hW:Below w.heap.size w W) => stats_Depths (HS.out.below hW) (HB.out.below hW) (by omega) root d)
   unfold DepPost at HDEP
   rw [← HZ.out] at HDEP
   have HCHK:=hid (fun (W:World) (hW:Below w.heap.size w W) => ref11_Check (HS.out.below hW) (HB.out.below hW) (by omega) root d)
   rw [← HZ.out,← HZP.out] at HCHK
   have HZB:Hid (z < 256):=by rw [Hid,HZ.out];exact vcheck_code s root y d
   clear hlen
   go_wp2_with fail
   refine HO1.out.mono ?_
   rintro e w3 ⟨hb3,h30,h31⟩
   have HB3:=hid (HB2.out.trans (hb3.mono HB2.out.size))
   have hzb:=HZB.out
   clear hb3 HO1
   by_cases hz:z = 0
   ·
    subst hz
    obtain ⟨v1,ss,base1,rfl,hK,-,hR1⟩:=h31 rfl
    obtain ⟨g1,⟨g2,g3⟩,⟨g4,g5⟩,g6⟩:=vcheck_ok HZ.out.symm
    obtain ⟨q,rfl⟩:∃ q:Nat,root = q:=⟨root.toNat,by omega⟩
    rw [Int.toNat_natCast] at g6
    have hql:q < s.length:=by omega
    obtain ⟨T,HT⟩:∃ T,Hid (T = evsub s (d.toNat + 1) (q:Int) y emptyS):=⟨_,rfl⟩
    have htl:T.length ≤ 1000:=by rw [HT.out];exact Nat.le_trans (evsub_len s (d.toNat + 1) (q:Int) y emptyS).1 HLEN.out
    obtain ⟨K,HK⟩:∃ K,Hid (K = (ss.mergeSort fun x y:List UInt8 => decide (x ≤ y)).map mkB):=⟨_,rfl⟩
    rw [← HT.out,← HK.out] at hK hR1
    have hsk:SortK K:=by
     have h:=hK.nd
     rw [HK.out] at h ⊢
     exact keys_sorted h
    have hAll:=addAll_eq hK hsk
    have hKL:K.length ≤ 1000:=by
     have:=nodup_le (b:=T.map SE.path) hK.nd fun p hp => by
      obtain ⟨e,he,h2⟩:=(hK.mem p).1 hp
      exact List.mem_map.2 ⟨e,he,h2⟩
     rw [List.length_map] at this
     omega
    have hrec:=cnt_all hK
    obtain ⟨WL,HWL⟩:∃ WL,Hid (WL = K.map (rowS T)):=⟨_,rfl⟩
    rw [← HWL.out] at hAll
    obtain ⟨T1,HT1⟩:∃ n,Hid (n = T.length):=⟨_,rfl⟩
    have hLL:rowsS T K y.length = ⟨emptyS,T1,ny,ny⟩ :: WL:=by rw [HT1.out,HNY.out,HWL.out];rfl
    rw [hLL] at hR1
    have hsum:(WL.map SR.recs).sum = T1:=by rw [HWL.out,HT1.out,← hrec,List.map_map];rfl
    obtain ⟨wn,HWN⟩:∃ n,Hid (n = WL.length):=⟨_,rfl⟩
    obtain ⟨L,HL⟩:∃ L:List SR,Hid (L = ⟨emptyS,T1,ny,ny⟩ :: WL):=⟨_,rfl⟩
    rw [← HL.out] at hR1
    obtain ⟨nl,HNL⟩:∃ n,Hid (n = L.length):=⟨_,rfl⟩
    have hnl:wn + 1 = nl:=by rw [HNL.out,HL.out,List.length_cons,HWN.out]
    have hwn:wn ≤ 1000:=by rw [HWN.out,HWL.out,List.length_map];exact hKL
    have hSL:=rowsOwn_segT hR1 (by rw [← HNL.out];omega) (Below.refl _ _)
    -- depths
    obtain ⟨hD64,-,-⟩:=vcheck_depth HZ.out.symm
    obtain ⟨hdl,hdg⟩:=dmsg_at d.toNat q y g6 0 []
    obtain ⟨D,HD⟩:∃ D,Hid (D = depL s d.toNat (q:Int) y):=⟨_,rfl⟩
    obtain ⟨DM,HDM⟩:∃ x,Hid (x = dmsg s (d.toNat + 1) (q:Int) y 0 []):=⟨_,rfl⟩
    obtain ⟨A,HA⟩:∃ A:Nat → Nat,Hid (A = fun i => atC s i (q:Int) y):=⟨_,rfl⟩
    rw [← HD.out] at hD64
    rw [← HD.out,← HDM.out] at hdl
    rw [← HDM.out] at hdg
    have hDML:DM.length = D + 1:=by rw [hdl];simp
    have hDMG:Hid (∀ i:Nat,i < D + 1 → DM[i]? = some ((A i:Nat):Int)):=fun i hi => by
     have h1:i < DM.length:=by omega
     have h2:=hdg i
     rw [List.getD_eq_getElem?_getD,List.getElem?_eq_getElem h1] at h2
     rw [List.getElem?_eq_getElem h1,HA.out]
     simp at h2
     rw [h2]
    -- the normal form
    have hfl:=nform_len g1 d.toNat q y hql g6 (by have:=HLEN.out;omega)
    obtain ⟨F,HF⟩:∃ F,Hid (F = nform s d.toNat q y):=⟨_,rfl⟩
    obtain ⟨nf,HNF⟩:∃ n,Hid (n = F.length):=⟨_,rfl⟩
    have hnf:nf ≤ 30000:=by rw [HNF.out,HF.out];have:=HLEN.out;omega
    -- contracts
    have HROW:Hid (∀ W,Below w.heap.size w W → Calls Tryz.prog 10 #[.slice none 0 0,.slice sa sn sc,.int .i64 (q:Int),.slice a2 ny c2,.string ⟨#[]⟩] W fun e w' => ∃ a c,e = .returned (.slice a wn c) ∧ SegR w' (.slice a wn c) WL ∧ Below W.heap.size W w'):=fun W hW => by
     have he0:emptyS.size = 0:=rfl
     have h:=ref28_Rows g1 HS.out d.toNat q W _ y emptyS none 0 0 [] 0 hql hW (HB.out.below hW) (by have:=HLEN.out;omega) g6 (segR_nil W) rfl (fun _ h => by cases h) (by omega) (by rw [← HT.out];omega) (by rw [← HT.out];omega)
     rw [← HT.out,hAll,← HWN.out] at h
     exact h
    have HFRM:=hid (fun (W:World) (hW:Below w.heap.size w W) => ref18_Form g1 (HS.out.below hW) (HB.out.below hW) (by have:=HLEN.out;omega) hql g6)
    rw [← HF.out] at HFRM
    have HDPT:=hid (fun (W:World) (hW:Below w.heap.size w W) => ref11_Depth (HS.out.below hW) (HB.out.below hW) (by have:=HLEN.out;omega) HZ.out.symm)
    rw [← HD.out] at HDPT
    have HAT:Hid (∀ (W:World) (i:Nat),i ≤ 64 → Below w.heap.size w W → Calls Tryz.prog 13 #[.slice sa sn sc,.int .i64 (q:Int),.slice a2 ny c2,.int .i64 (i:Int)] W fun e w' => e = .returned (.int .i64 (A i:Nat)) ∧ Below W.heap.size W w'):=fun W i hi hW => by
     have h:=ref28_At g1 HS.out i (by omega) d.toNat q W _ y hql hW (HB.out.below hW) (by have:=HLEN.out;omega) g6
     rw [HA.out]
     exact h
    rw [Int.toNat_natCast,← HF.out,← HNF.out] at HSAV
    rw [← HDM.out] at HDEP
    obtain ⟨la,lc,rfl,-⟩:=hSL.open
    rw [← HNL.out] at hSL ⊢
    have HSL:=hid hSL
    have HSUM:=hid hsum
    have HDML:=hid hDML
    have hnl2:nl ≤ 1001:=by omega
    have hny:ny ≤ 1000:=by rw [HNY.out];exact HLEN.out
    have hT1:T1 ≤ 1000:=by rw [HT1.out];exact htl
    have HNL2:=hid hnl
    clear h30 h31 hK hR1 g1 g2 g3 g4 g5 g6 hql hsk hAll hKL hrec hLL hsum hdl hdg hDML hfl hSL htl hnl
    go_wp2_with fail
    refine (HSAV.out _ HB3.out).mono ?_
    rintro e w4 ⟨hb4,-,h41⟩
    have he:=h41 (by first | rfl | trivial)
    subst he
    have HB34:=hid hb4
    have HB4:=hid (HB3.out.trans (hb4.mono HB3.out.size))
    clear hb4 h41 HSAV
    go_wp2_with fail
    refine (HDEP.out _ HB4.out).mono ?_
    rintro e w5 ⟨hb5,-,h51⟩
    obtain ⟨v5,base5,rfl,hI5⟩:=h51 (by first | rfl | trivial)
    have hI5s:=row_seg hI5 (by have:=HDML.out;omega)
    obtain ⟨da,dc,rfl⟩:=hI5.form
    rw [HDML.out] at hI5s ⊢
    obtain ⟨dn,HDN⟩:∃ n,Hid (n = D + 1):=⟨_,rfl⟩
    have hdn:dn ≤ 65:=by rw [HDN.out];omega
    have hdD:((dn:Int) != (D:Int) + 1) = false:=by have:=HDN.out;simp;omega
    rw [← HDN.out] at hI5s ⊢
    have HIS:=hid hI5s
    have HB45:=hid hb5
    have HB5:=hid (HB4.out.trans (hb5.mono HB4.out.size))
    clear hb5 h51 hI5 hI5s HDEP
    go_wp2_with fail
    refine (HCHK.out _ HB5.out).mono ?_
    rintro e w6 ⟨rfl,hb6⟩
    have HB56:=hid hb6
    have HB6:=hid (HB5.out.trans (hb6.mono HB5.out.size))
    clear hb6 HCHK
    go_wp2_with fail
    refine (HROW.out _ HB6.out).mono ?_
    rintro e w7 ⟨wa,wc',rfl,hS7,hb7⟩
    have HS7:=hid hS7
    have HB67:=hid hb7
    have HB7:=hid (HB6.out.trans (hb7.mono HB6.out.size))
    clear hb7 hS7 HROW
    go_wp2_with fail
    have HJ0:Hid (0 = ((WL.take 0).map SR.recs).sum ∧ RowKit.Below w7.heap.size w7 w7):=⟨rfl,RowKit.Below.refl _ _⟩
    go_loopw [18,19] (fun v18 v19 wr => ∃ i acc:Nat,v19 = .int .i64 (i:Int) ∧ v18 = .int .i64 (acc:Int) ∧ i ≤ wn ∧ Hid (acc = ((WL.take i).map SR.recs).sum ∧ RowKit.Below w7.heap.size w7 wr)) (fun _ v19 _ => wn - (intOf v19).toNat)
    case atStart => exact ⟨0,0,rfl,rfl,by omega,HJ0.out⟩
    case round =>
     obtain ⟨i,acc,rfl,rfl,hi,HJ⟩:=hrel
     by_cases hlt:i < wn
     ·
      obtain ⟨x,hx⟩:∃ r,WL[i]? = some r:=⟨_,List.getElem?_eq_getElem (by rw [← HWN.out];exact hlt)⟩
      have hSW:=HS7.out.below HJ.out.2
      rw [HWN.out] at hSW
      obtain ⟨a',cap',he,hat⟩:=hSW.open
      obtain ⟨hae,-,hce⟩:=Value.slice.inj he
      subst hae
      subst hce
      obtain ⟨lb,lo,rfl,-,k1,-,-⟩:=hat i x hx
      have hacc:acc + x.recs = ((WL.take (i + 1)).map SR.recs).sum:=by
       rw [List.take_add_one,hx,Option.toList_some,List.map_append,List.sum_append,← HJ.out.1]
       simp
      have hbd:acc + x.recs ≤ 1000:=by
       have h2:=HSUM.out
       rw [← List.take_append_drop (i + 1) WL,List.map_append,List.sum_append,← hacc] at h2
       omega
      obtain ⟨r1,HR1⟩:∃ n,Hid (n = x.recs):=⟨_,rfl⟩
      rw [← HR1.out] at k1 hacc hbd
      have hix:=index_run Tryz.underlying38 size_rrow (rfl:some (⟨lb,lo,none⟩:Addr) = some ⟨lb,lo,none⟩) i hlt (cap:=wc')
      have hbl:=World.block_lt_of_cell? wr _ k1
      have HNEW:=hid hacc
      clear hx hSW he hat hacc
      go_wp2_with fail
      go_roundw
      case rel => exact ⟨i + 1,acc + r1,by go_num,by go_num,hlt,hid ⟨HNEW.out,HJ.out.2⟩⟩
      case measure => simp [intOf];omega
     ·
      obtain rfl:i = wn:=by omega
      have hacc:acc = T1:=by
       have h:=HJ.out.1
       rw [List.take_of_length_le (by rw [← HWN.out];exact Nat.le_refl _),HSUM.out] at h
       exact h
      subst hacc
      obtain ⟨WO,rfl⟩:∃ W,W = wr:=⟨_,rfl⟩
      obtain ⟨ca,cc,w8,hr8,hS8,hb8⟩:=rows_cons (HS7.out.below HJ.out.2) (by rw [← HWN.out];omega) ⟨#[]⟩ acc ny ny
      rw [← HWN.out,HNL2.out] at hr8 hS8
      have hS8':SegR w8 (.slice ca nl cc) L:=by rw [HL.out];exact hS8
      have HR8:=hid hr8
      have HS8:=hid hS8'
      have HB78:=hid (HJ.out.2.trans (hb8.mono HJ.out.2.size))
      have HB8:=hid (HB7.out.trans (HB78.out.mono HB7.out.size))
      have hnn:((nl:Int) != nl) = false:=by simp
      have hff:(((ny:Int) - nf) != ((ny:Int) - nf)) = false:=by simp
      clear hr8 hS8 hS8' hb8 HJ
      go_wp2_with (at_builtin;refine wpList_append_eq rfl _ _ _ rfl _ _ rfl rfl HR8.out ?_)
      refine (HFRM.out _ HB8.out).mono ?_
      rintro e w9 ⟨v9,rfl,hO9,hb9⟩
      obtain ⟨fa9,fc9,rfl⟩:=own_form hO9
      rw [← HNF.out]
      have HB89:=hid hb9
      have HB9:=hid (HB8.out.trans (hb9.mono HB8.out.size))
      clear hO9 hb9 HFRM HR8
      go_wp2_with fail
      refine (HDPT.out _ HB9.out).mono ?_
      rintro e w10 ⟨rfl,hb10⟩
      have HB910:=hid hb10
      have HB10:=hid (HB9.out.trans (hb10.mono HB9.out.size))
      have HB810:=hid (HB89.out.trans (HB910.out.mono HB89.out.size))
      have HB58:=hid ((HB56.out.trans (HB67.out.mono HB56.out.size)).trans (HB78.out.mono (Nat.le_trans HB56.out.size HB67.out.size)))
      have HB510:=hid (HB58.out.trans (HB810.out.mono HB58.out.size))
      have HB35:=hid (HB34.out.trans (HB45.out.mono HB34.out.size))
      have HB310:=hid (HB35.out.trans (HB510.out.mono HB35.out.size))
      clear hb10 HDPT
      go_wp2_with fail
      clear hdD hnn hff
      go_loopw [20] (fun v20 wr => ∃ i:Nat,v20 = .int .i64 (i:Int) ∧ i ≤ nl ∧ Hid (RowKit.Below w10.heap.size w10 wr)) (fun v20 _ => nl - (intOf v20).toNat)
      case atStart => exact ⟨0,rfl,by omega,hid (RowKit.Below.refl _ _)⟩
      case round =>
       obtain ⟨i,rfl,hi2,HJ⟩:=hrel
       by_cases hlt2:i < nl
       ·
        obtain ⟨x,hx⟩:∃ r,L[i]? = some r:=⟨_,List.getElem?_eq_getElem (by rw [← HNL.out];exact hlt2)⟩
        have hSL:=HSL.out.below (HB310.out.trans (HJ.out.mono HB310.out.size))
        have hSW:=HS8.out.below (HB810.out.trans (HJ.out.mono HB810.out.size))
        rw [HNL.out] at hSL hSW
        obtain ⟨a',cap',he,hat⟩:=hSL.open
        obtain ⟨hae,-,hce⟩:=Value.slice.inj he
        subst hae
        subst hce
        obtain ⟨lb,lo,rfl,k0,k1,k2,k3⟩:=hat i x hx
        obtain ⟨a',cap',he,hat⟩:=hSW.open
        obtain ⟨hae,-,hce⟩:=Value.slice.inj he
        subst hae
        subst hce
        obtain ⟨cb,co,rfl,m0,m1,m2,m3⟩:=hat i x hx
        obtain ⟨p,r1,r2,r3⟩:=x
        simp only at k0 k1 k2 k3 m0 m1 m2 m3
        have hneq:=rrow_neq p (r1:Int) (r2:Int) (r3:Int)
        have hix:=index_run Tryz.underlying27 size_srow (rfl:some (⟨lb,lo,none⟩:Addr) = some ⟨lb,lo,none⟩) i hlt2 (cap:=lc)
        have hix2:=index_run Tryz.underlying38 size_rrow (rfl:some (⟨cb,co,none⟩:Addr) = some ⟨cb,co,none⟩) i hlt2 (cap:=cc)
        have hbl:=World.block_lt_of_cell? wr _ k0
        have hbl2:=World.block_lt_of_cell? wr _ m0
        clear hx hSL hSW he hat
        go_upto_region 23 with fail
        go_quiet (fail)
        have HBQ:=hid (HJ.out.trans ((below_drewN (RowKit.Below.refl wr.heap.size wr) nq).mono HJ.out.size))
        clear k0 k1 k2 k3 m0 m1 m2 m3 hneq hix hix2 hbl hbl2
        go_wp2_with fail
        go_roundw
        case rel => exact ⟨i + 1,by go_num,hlt2,HBQ⟩
        case measure => simp [intOf];omega
       ·
        obtain rfl:i = nl:=by omega
        obtain ⟨WP,rfl⟩:∃ W,W = wr:=⟨_,rfl⟩
        have HJ2:=hid HJ.out
        clear hlt2 hi2
        go_wp2_with fail
        go_loopw [21] (fun v21 wr => ∃ j:Nat,v21 = .int .i64 (j:Int) ∧ j ≤ dn ∧ Hid (RowKit.Below w10.heap.size w10 wr)) (fun v21 _ => dn - (intOf v21).toNat)
        case atStart => exact ⟨0,rfl,by omega,HJ2⟩
        case round =>
         obtain ⟨j,rfl,hj,HJ3⟩:=hrel
         by_cases hlt3:j < dn
         ·
          obtain ⟨Aj,HAJ⟩:∃ n,Hid (n = A j):=⟨_,rfl⟩
          have hb5r:=HB510.out.trans (HJ3.out.mono HB510.out.size)
          obtain ⟨-,-,a',cap',he,-,-,-,hc⟩:=HIS.out.keep (below_keeps hb5r)
          obtain ⟨hae,-,hce⟩:=Value.slice.inj he
          subst hae
          subst hce
          obtain ⟨db,dof,rfl,cd⟩:=hc j _ (by rw [List.getElem?_map,hDMG.out j (by have:=HDN.out;omega)];rfl)
          replace cd:wr.cell? ⟨db,dof + j,none⟩ = some (.int .i64 (Aj:Int)):=by rw [HAJ.out];exact cd
          have hix:=index_run1 Tryz.underlying33 size_int (rfl:some (⟨db,dof,none⟩:Addr) = some ⟨db,dof,none⟩) j hlt3 (cap:=dc)
          have HBR:=hid (HB10.out.trans (HJ3.out.mono HB10.out.size))
          have HATJ:=HAT.out wr.drew j (by omega) HBR.out.drew
          rw [← HAJ.out] at HATJ
          have HATJ2:=hid HATJ
          have hAA:((Aj:Int) != Aj) = false:=by simp
          have cdd:wr.drew.cell? ⟨db,dof + j,none⟩ = some (.int .i64 (Aj:Int)):=cd
          have hblV:=World.block_lt_of_cell? wr _ cd
          clear hb5r he hc cd HATJ
          go_upto_region 28 with fail
          refine wp_region_seq (fun w' => w'.cell? ⟨db,dof + j,none⟩ = some (.int .i64 (Aj:Int))) (fun _ => True) 8 [0,0,0,0,0,0,0,0,2,0] (by kernel_rfl) rfl (by kernel_rfl) (fun _ _ dst _ _ h => by cases dst <;> exact h) cdd trivial (fun OPS _ => ?_)
          refine seqG0 (v:=?v0) ?hy0 ?hr0
          case hy0 => (intro w hw;go_simp;all_goals rfl)
          simp only [Act.put,List.setIfInBounds_toArray,List.set_cons_zero,List.set_cons_succ]
          refine seqG0 (v:=?v1) ?hy1 ?hr1
          case hy1 => (intro w hw;go_simp;all_goals rfl)
          simp only [Act.put,List.setIfInBounds_toArray,List.set_cons_zero,List.set_cons_succ]
          refine seqG0 (v:=?v2) ?hy2 ?hr2
          case hy2 => (intro w hw;go_simp;all_goals rfl)
          simp only [Act.put,List.setIfInBounds_toArray,List.set_cons_zero,List.set_cons_succ]
          refine seqG0 (v:=?v3) ?hy3 ?hr3
          case hy3 => (intro w hw;go_simp;all_goals rfl)
          simp only [Act.put,List.setIfInBounds_toArray,List.set_cons_zero,List.set_cons_succ]
          refine seqG0 (v:=?v4) ?hy4 ?hr4
          case hy4 => (intro w hw;go_simp;all_goals rfl)
          simp only [Act.put,List.setIfInBounds_toArray,List.set_cons_zero,List.set_cons_succ]
          refine seqG0 (v:=?v5) ?hy5 ?hr5
          case hy5 => (intro w hw;go_simp;all_goals rfl)
          simp only [Act.put,List.setIfInBounds_toArray,List.set_cons_zero,List.set_cons_succ]
          refine seqG0 (v:=?v6) ?hy6 ?hr6
          case hy6 => (intro w hw;go_simp;all_goals rfl)
          simp only [Act.put,List.setIfInBounds_toArray,List.set_cons_zero,List.set_cons_succ]
          refine seqG0 (v:=?v7) ?hy7 ?hr7
          case hy7 => (intro w hw;go_simp;all_goals rfl)
          simp only [Act.put,List.setIfInBounds_toArray,List.set_cons_zero,List.set_cons_succ]
          refine seqG2 (fun K12 HK12 => ?_)
          go_wp2_with fail
          refine HATJ2.out.mono ?_
          rintro e w11 ⟨rfl,hb11⟩
          have HC11:Hid (w11.cell? ⟨db,dof + j,none⟩ = some (.int .i64 (Aj:Int)) ∧ RowKit.Below w10.heap.size w10 w11):=⟨below_keeps hb11 _ _ cdd,HJ3.out.drew.trans (hb11.mono HJ3.out.drew.size)⟩
          clear hb11 cdd
          go_wp2_with fail
          refine HK12.out _ _ HC11.out.1 ?_
          clear HK12 K12
          intro _
          refine seqG0 (v:=?v9) ?hy9 ?hr9
          case hy9 => (intro w hw;go_simp;all_goals rfl)
          simp only [Act.put,List.setIfInBounds_toArray,List.set_cons_zero,List.set_cons_succ]
          refine seqG_end ?_
          clear hix hblV hAA
          go_wp2_with fail
          go_roundw
          case rel => exact ⟨j + 1,by go_num,hlt3,hid HC11.out.2⟩
          case measure => simp [intOf];omega
         ·
          obtain rfl:j = dn:=by omega
          have HE:=hid (HTRUE.out wr (HB10.out.trans (HJ3.out.mono HB10.out.size)))
          go_wp2_with fail
          exact HE.out
   ·
    have he:=h30 hz
    subst he
    have e1:((z:Int) != 0) = true:=by simpa using hz
    have e2:((z:Int) == z) = true:=by simp
    have e3:((z:Int) == 0) = false:=by simpa using hz
    have HZN:=hid hz
    clear h30 h31 hz
    go_wp2_with fail
    refine (HSAV.out _ HB3.out).mono ?_
    rintro e w4 ⟨hb4,h40,-⟩
    have he:=h40 HZN.out
    subst he
    have HB4:=hid (HB3.out.trans (hb4.mono HB3.out.size))
    clear hb4 h40
    go_wp2_with fail
    refine (HDEP.out _ HB4.out).mono ?_
    rintro e w5 ⟨hb5,h50,-⟩
    have he:=h50 HZN.out
    subst he
    have HB5:=hid (HB4.out.trans (hb5.mono HB4.out.size))
    clear hb5 h50
    go_wp2_with fail
    refine (HCHK.out _ HB5.out).mono ?_
    rintro e w6 ⟨rfl,hb6⟩
    have HB6:=hid (HB5.out.trans (hb6.mono HB5.out.size))
    clear hb6
    go_wp2_with fail
    exact HTRUE.out _ HB6.out
end Go.Proofs.YtphkmpnahnakaaaGreat
