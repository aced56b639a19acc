/- norm.Form; darninglaw19.KeepBoth returns true, of contracts of darningref14.Of. Paths of bulk at most 2^39. -/
import Derived.Test.YtfimpmennkfjcaaGreatDoorZ24
import Derived.Test.YtfimpmennkfjcaaGreatDoorZ41
import Derived.Test.YtfimpmennkfjcaaGreatDoorZ46
import Derived.Test.YtfimpmennkfjcaaGreatDoorZ47
import Derived.Deep.CutBlock
namespace Go.Proofs.YtfimpmennkfjcaaGreatDoor
open Go.RowKit
set_option maxRecDepth 100000 in
set_option maxHeartbeats 4000000 in
theorem norm_Form {w:World} {sv bv:Value} {s:List Mes} {l:List UInt8} (hS:SchemaAt w sv s) (hb:Bytes w bv l) (hl:l.length ≤ 1073741824) (root d:Int) (hv:(vcheck s root l d).2 = 0) :
  Calls Tryz.prog 28 #[sv,.int .i64 root,bv,.int .i64 d] w fun e w' => ∃ v',e = .returned (.tuple #[v',.int .u8 0]) ∧ Own w' w.heap.size v' (nform s d.toNat root.toNat l) ∧ Below w.heap.size w w':=by
 obtain ⟨g1,⟨g2,g3⟩,-,g4⟩:=vcheck_ok hv
 have HC:=hid (valid_Check hS hb root d)
 obtain ⟨p,HP⟩:∃ p,Hid (p = (vcheck s root l d).1):=⟨_,rfl⟩
 rw [← HP.out,hv] at HC
 obtain ⟨r,rfl⟩:∃ r:Nat,root = r:=⟨root.toNat,by omega⟩
 rw [Int.toNat_natCast] at g4 ⊢
 have HF:=hid (fun (W:World) (hW:Below w.heap.size w W) => norm_form g1 d.toNat W sv bv r l (hS.below hW) (by omega) (hb.below hW) hl g4)
 obtain ⟨-,sa,sc,rfl,-⟩:=hS.open
 obtain ⟨-,a,c,rfl,-⟩:=hb.open
 obtain ⟨sn,HSN⟩:∃ n,Hid (n = s.length):=⟨_,rfl⟩
 obtain ⟨n,HN⟩:∃ n,Hid (n = l.length):=⟨_,rfl⟩
 rw [← HSN.out,← HN.out] at HC HF ⊢
 clear hS hb hl hv g1 g2 g3 g4
 obtain ⟨Q,HQ⟩:∃ Q:Ending → World → Prop,Hid (Q = fun e w' => ∃ v',e = .returned (.tuple #[v',.int .u8 0]) ∧ Own w' w.heap.size v' (nform s d.toNat r l) ∧ Below w.heap.size w w'):=⟨_,rfl⟩
 rw [← HQ.out]
 go_enter Tryz.func28,Tryz.ntmps28
 go_wp2_with (first | (go_at_call 52;refine HC.out.mono ?_;rintro e w1 ⟨rfl,hb1⟩;have HB1:=hid hb1;clear hb1) | (go_at_call 56;refine (HF.out _ HB1.out).mono ?_;rintro e w2 ⟨v2,rfl,hO2,hb2⟩;obtain ⟨a2,c2,rfl⟩:=own_form hO2))
 rw [HQ.out]
 exact ⟨_,rfl,hO2.mono HB1.out.size,HB1.out.trans (hb2.mono HB1.out.size)⟩
theorem bytes_both {w:World} {p q:Value} {l m:List UInt8} (hp:Bytes w p l) (hq:Bytes w q m) (hlen:l.length + m.length ≤ 1099511627776) :
  ∃ v1 w1 v2 w2,(Builtin.append_ #[24,24] 24 #[.slice (some ⟨w.heap.size,0,none⟩) 0 0,p]).run Tryz.prog (w.alloc (.cells #[] 5)) = .ok v1 w1 ∧
   (Builtin.append_ #[24,24] 24 #[v1,q]).run Tryz.prog w1 = .ok v2 w2 ∧ Bytes w2 v2 (l ++ m) ∧ Below w.heap.size w w2 ∧ (∃ a n c,v1 = .slice a n c) ∧ (∃ a c,v2 = .slice a (l ++ m).length c):=by
 have hb0:Below w.heap.size w (w.alloc (.cells #[] 5)):=(Below.refl _ _).alloc (Nat.le_refl _) _
 have h0:Own (w.alloc (.cells #[] 5)) w.heap.size (.slice (some ⟨w.heap.size,0,none⟩) 0 0) []:=World.ownsRow_made (base:=w.heap.size) (e:=5) (size:=1) w #[] 0 (Nat.le_refl _) (by unfold maxLen;omega) rfl
 obtain ⟨v1,w1,e1,o1,g1,-⟩:=own_append h0 (hp.below hb0) (by simp;omega) hb0.size
 have hb1:Below w.heap.size w w1:=hb0.grown g1 hb0.size (by intro q e;simp [Value.ownBlock] at e;omega)
 obtain ⟨v2,w2,e2,o2,g2,-⟩:=own_append o1 (hq.below hb1) (by simpa using Nat.le_trans hlen (by omega)) hb1.size
 have hb2:Below w.heap.size w w2:=hb1.grown g2 hb1.size (fun q e => (World.ownsRow.lt o1 q e).1)
 rw [List.nil_append] at o2 o1
 refine ⟨v1,w1,v2,w2,e1,e2,o2.bytes (by rw [List.length_append];omega),hb2,own_form' o1,own_form o2⟩
set_option maxRecDepth 100000 in
set_option maxHeartbeats 16000000 in
theorem law19_KeepBoth {w:World} {sv bv pv:Value} {s:List Mes} {b:List UInt8} {ps:List (List UInt8)} (hrf:sright s = true → ∀ d',ROfOk w sv s d') (hS:SchemaAt w sv s) (hb:Bytes w bv b) (hP:StrsAt w pv ps) (hp:twt ps ≤ 549755813888) (root d:Int) :
  Calls Tryz.prog 6 #[sv,.int .i64 root,bv,.int .i64 d,pv] w fun e w' => e = .returned (.bool true) ∧ Below w.heap.size w w':=by
 have HRF:=hid hrf
 have HS:=hid hS
 have HB:=hid hb
 have HP:=hid hP
 have HPW:=hid hp
 have HPL:Hid (∀ t ∈ ps,t.length ≤ 549755813888):=fun t ht => by have:=twt_memP ht;omega
 obtain ⟨-,sa,sc,rfl,-⟩:=hS.open
 obtain ⟨-,a,c,rfl,-⟩:=hb.open
 obtain ⟨-,pa,pc,rfl,-,hpat⟩:=hP.open
 obtain ⟨sn,HSN⟩:∃ n,Hid (n = s.length):=⟨_,rfl⟩
 obtain ⟨n,HN⟩:∃ n,Hid (n = b.length):=⟨_,rfl⟩
 obtain ⟨pn,HPN⟩:∃ n,Hid (n = ps.length):=⟨_,rfl⟩
 have hpn:pn ≤ 140737488355328:=by rw [HPN.out];exact hP.open.1
 rw [← HSN.out] at HS HRF ⊢
 rw [← HN.out] at HB ⊢
 rw [← HPN.out] at HP ⊢
 have HPAT:=hid hpat
 obtain ⟨R,HR⟩:∃ R:Ending → World → Prop,Hid (R = fun e w' => e = .returned (.bool true) ∧ Below w.heap.size w w'):=⟨_,rfl⟩
 rw [← HR.out]
 have HTRUE:Hid (∀ w',Below w.heap.size w w' → R (.returned (.bool true)) w'):=fun w' hb => by rw [HR.out];exact ⟨rfl,hb⟩
 obtain ⟨lp,HLP⟩:∃ y,Hid (y = decide (6000 < twt ps)):=⟨_,rfl⟩
 clear hS hb hP hp HR hpat hrf
 go_enter Tryz.func6,Tryz.ntmps6
 go_wp2_with fail
 refine (law19_alive _).mono ?_
 rintro e w1 ⟨rfl,hb1⟩
 have HB1:=hid hb1
 clear hb1
 go_wp2_with fail
 refine (law07_Few (HS.out.keep (below_keeps HB1.out))).mono ?_
 rintro e w2 ⟨⟨fw,rfl⟩,hb2⟩
 have HB2:=hid (HB1.out.trans (hb2.mono HB1.out.size))
 clear hb2
 cases fw with
 | false =>
  go_wp2_with fail
  exact HTRUE.out _ HB2.out
 | true =>
  by_cases hlong:(1000:Int) < n
  ·
   go_wp2_with fail
   exact HTRUE.out _ HB2.out
  ·
   have HL1:=hid (law12_Long (HP.out.keep (below_keeps HB2.out)) (by have:=HPW.out;omega))
   rw [← HLP.out] at HL1
   go_wp2_with fail
   refine HL1.out.mono ?_
   rintro e w3 ⟨rfl,rfl⟩
   cases lp with
   | true =>
    go_wp2_with fail
    exact HTRUE.out _ HB2.out
   | false =>
    have HBL:Hid (b.length ≤ 1000):=by have:=HN.out;show _ ≤ _;omega
    have HPL2:Hid (∀ t ∈ ps,t.length ≤ 1099511627776):=fun t ht => by have:=HPL.out t ht;omega
    obtain ⟨cc,HCC⟩:∃ cc,Hid (cc = pathsCode s root d b ps):=⟨_,rfl⟩
    obtain ⟨Y,HY⟩:∃ Y,Hid (Y = if cc ≠ 0 then [] else kpart s true d.toNat root.toNat (makeC s root ps).2 b):=⟨_,rfl⟩
    obtain ⟨Z,HZ⟩:∃ Y,Hid (Y = if cc ≠ 0 then [] else kpart s false d.toNat root.toNat (makeC s root ps).2 b):=⟨_,rfl⟩
    obtain ⟨N,HNN⟩:∃ N,Hid (N = kpart s true d.toNat root.toNat (makeC s root ps).2 Z):=⟨_,rfl⟩
    have hny:namedC s root d b ps true = (cc,Y):=by
     rw [named_by_code,← HCC.out,HY.out]
     by_cases h:cc = 0
     ·
      rw [if_neg (by omega),if_neg (by omega),h]
     ·
      rw [if_pos h,if_pos h]
    have hnz:namedC s root d b ps false = (cc,Z):=by
     rw [named_by_code,← HCC.out,HZ.out]
     by_cases h:cc = 0
     ·
      rw [if_neg (by omega),if_neg (by omega),h]
     ·
      rw [if_pos h,if_pos h]
    have HCB:Hid (cc < 256):=by rw [HCC.out];exact (pathsCode_lt s root d b ps).1
    have HBO:Hid (cc = 0 → BothL s root d b ps Y Z N):=fun hcc => by
     have h:=both_law (s:=s) (root:=root) (d:=d) (b:=b) (ps:=ps) (by have:=HBL.out;omega) (HCC.out.symm.trans hcc)
     have e1:Y = kpart s true d.toNat root.toNat (makeC s root ps).2 b:=by rw [HY.out,if_neg (fun h => h hcc)]
     have e2:Z = kpart s false d.toNat root.toNat (makeC s root ps).2 b:=by rw [HZ.out,if_neg (fun h => h hcc)]
     rw [HNN.out,e2,e1];exact h
    have HYE:Hid (cc ≠ 0 → Y = [] ∧ Z = []):=fun hcc => ⟨by rw [HY.out,if_pos hcc],by rw [HZ.out,if_pos hcc]⟩
    have HYL:Hid (Y.length ≤ 1000 ∧ Z.length ≤ 1000):=by
     have hb:=HBL.out
     by_cases h:cc = 0
     ·
      have:=HBO.out h;exact ⟨by have:=this.xl;omega,by have:=this.yl;omega⟩
     ·
      rw [(HYE.out h).1,(HYE.out h).2];exact ⟨by simp,by simp⟩
    have HW1:=hid (keep_Paths (HS.out.below HB2.out) (HB.out.below HB2.out) (by have:=HBL.out;omega) (HP.out.keep (below_keeps HB2.out)) HPL2.out root d)
    rw [hny] at HW1
    have HW2:Hid (∀ W,Below w.heap.size w W → Calls Tryz.prog 10 #[.slice sa sn sc,.int .i64 root,.slice a n c,.int .i64 d,.slice pa pn pc] W (KPost W (cc,Z))):=fun W hW => by
     have:=keep_Without (HS.out.below hW) (HB.out.below hW) (by have:=HBL.out;omega) (HP.out.keep (below_keeps hW)) HPL2.out root d
     rwa [hnz] at this
    unfold KPost at HW1 HW2
    simp only at HW1 HW2
    clear hny hnz HL1 HY HZ HNN
    go_wp2_with fail
    refine HW1.out.mono ?_
    rintro e w3 ⟨v3,rfl,hO3,hb3⟩
    obtain ⟨xa,xc,rfl⟩:=hO3.form
    obtain ⟨yn,HYN⟩:∃ n,Hid (n = Y.length):=⟨_,rfl⟩
    have HX3:=hid (hO3.bytes (by have:=HYL.out.1;omega))
    rw [← HYN.out] at HX3 ⊢
    have HB3:=hid (HB2.out.trans (hb3.mono HB2.out.size))
    clear hO3 hb3 HW1
    go_wp2_with fail
    refine (HW2.out _ HB3.out).mono ?_
    rintro e w4 ⟨v4,rfl,hO4,hb4⟩
    obtain ⟨za,zc,rfl⟩:=hO4.form
    obtain ⟨zn,HZN⟩:∃ n,Hid (n = Z.length):=⟨_,rfl⟩
    have HX4:=hid (And.intro (HX3.out.below hb4) (hO4.bytes (by have:=HYL.out.2;omega)))
    rw [← HZN.out] at HX4 ⊢
    have HB4:=hid (HB3.out.trans (hb4.mono HB3.out.size))
    clear hO4 hb4 HW2 HX3
    by_cases hcc:cc = 0
    ·
     subst hcc
     have HBB:=hid (HBO.out rfl)
     clear HBO HYE HCB
     have hyn:(yn:Int) ≤ n:=by have:=HBB.out.xl;have:=HYN.out;have:=HN.out;omega
     have hzn:(zn:Int) ≤ n:=by have:=HBB.out.yl;have:=HZN.out;have:=HN.out;omega
     go_upto_region 11 with fail
     clear hyn hzn hlong
     have HK3:=hid (keep_Paths (HS.out.below HB4.out) HX4.out.1 (by have:=HYL.out.1;omega) (HP.out.keep (below_keeps HB4.out)) HPL2.out root d)
     rw [HBB.out.again] at HK3
     have HK4:Hid (∀ W v,Below w.heap.size w W → Bytes W v Z → Calls Tryz.prog 22 #[.slice sa sn sc,.int .i64 root,v,.int .i64 d,.slice pa pn pc] W (KPost W (0,N))):=fun W v hW hv => by
      have:=keep_Paths (HS.out.below hW) hv (by have:=HYL.out.2;omega) (HP.out.keep (below_keeps hW)) HPL2.out root d
      rwa [HBB.out.none] at this
     unfold KPost at HK3 HK4
     simp only at HK3 HK4
     go_wp2_with fail
     refine HK3.out.mono ?_
     rintro e w5 ⟨v5,rfl,hO5,hb5⟩
     obtain ⟨a5,c5,rfl⟩:=hO5.form
     have hA5:=hO5.bytes (by have:=HYL.out.1;omega)
     rw [← HYN.out] at hA5 ⊢
     have HA5:=hid hA5
     have HX5:=hid (And.intro (HX4.out.1.below hb5) (HX4.out.2.below hb5))
     have HB5:=hid (HB4.out.trans (hb5.mono HB4.out.size))
     clear hO5 hb5 HK3 hA5
     go_wp2_with fail
     refine (HK4.out _ _ HB5.out HX5.out.2).mono ?_
     rintro e w6 ⟨v6,rfl,hO6,hb6⟩
     obtain ⟨na,nc,rfl⟩:=hO6.form
     obtain ⟨nn,HNN⟩:∃ n,Hid (n = N.length):=⟨_,rfl⟩
     have hN6:=hO6.bytes (by have:=HBB.out.nl;have:=HBL.out;omega)
     rw [← HNN.out] at hN6 ⊢
     have HN6:=hid hN6
     have HX6:=hid (And.intro (HX5.out.1.below hb6) (HX5.out.2.below hb6))
     have HB6:=hid (HB5.out.trans (hb6.mono HB5.out.size))
     have hsm:=ref01_Same (HA5.out.below hb6) HX6.out.1
     rw [show decide (Y = Y) = true from decide_eq_true rfl] at hsm
     have HSM:=hid hsm
     clear hO6 hb6 HK4 hN6 hsm
     go_upto_region 15 with (go_at_call 11;refine HSM.out.mono ?_;rintro e w7 ⟨rfl,rfl⟩)
     go_wp2_with fail
     go_loopw [19,20,21] (fun v19 _ _ wr => ∃ i:Nat,v19 = .int .i64 (i:Int) ∧ i ≤ pn ∧ Hid (Below w6.heap.size w6 wr)) (fun v19 _ _ _ => pn - (intOf v19).toNat)
     case atStart => exact ⟨0,rfl,by omega,Below.refl _ _⟩
     case round =>
      obtain ⟨i,rfl,hi,HJ⟩:=hrel
      have HBr:=hid (HB6.out.trans (HJ.out.mono HB6.out.size))
      by_cases hlt:i < pn
      ·
       obtain ⟨p,hp⟩:∃ p,ps[i]? = some p:=⟨_,List.getElem?_eq_getElem (by rw [← HPN.out];exact hlt)⟩
       obtain ⟨-,pb,po,hpa,hpc⟩:=HPAT.out i p hp
       subst hpa
       have hpl:=HPL.out p (List.mem_of_getElem? hp)
       have g0:=below_keeps HBr.out _ _ hpc
       have hix:=index_run1 Tryz.underlying25 size_strp1 (a:=some ⟨pb,po,none⟩) rfl i hlt (cap:=pc)
       have hgl:=World.block_lt_of_cell? wr _ g0
       have HKH:=hid (keep_Has (HS.out.below HBr.out) (HN6.out.below HJ.out) (by have:=HBB.out.nl;have:=HBL.out;omega) hpl root d)
       rw [HBB.out.has p (List.mem_of_getElem? hp)] at HKH
       clear hp hpc hpl
       go_wp2_with (go_at_call 25;refine HKH.out.mono ?_;rintro e w8 ⟨rfl,hb8⟩;have HB8:=hid (HJ.out.trans (hb8.mono HJ.out.size));clear hb8)
       go_roundw
       case rel => exact ⟨i + 1,by go_num,hlt,HB8.out⟩
       case measure => simp [intOf];omega
      ·
       obtain rfl:i = pn:=by omega
       have HXr:=hid (And.intro (HX6.out.1.below HJ.out) (HX6.out.2.below HJ.out))
       obtain ⟨u1,y1,u2,y2,e1,e2,hU,hb9,⟨g1,m1,k1,rfl⟩,⟨g2,k2,rfl⟩⟩:=bytes_both HXr.out.1 HXr.out.2 (by have:=HYL.out;omega)
       obtain ⟨rn,HRN⟩:∃ n,Hid (n = (Y ++ Z).length):=⟨_,rfl⟩
       rw [← HRN.out] at e2 hU
       have HB9:=hid (HBr.out.trans (hb9.mono HBr.out.size))
       have HU:=hid hU
       have hbl2:(Y ++ Z).length ≤ 2000:=by rw [List.length_append];have:=HYL.out;omega
       have HF1:=hid (norm_Form (HS.out.below HB9.out) hU (by omega) root d HBB.out.vxy)
       have HF2:Hid (∀ W,Below w.heap.size w W → Calls Tryz.prog 28 #[.slice sa sn sc,.int .i64 root,.slice a n c,.int .i64 d] W fun e w' => ∃ v',e = .returned (.tuple #[v',.int .u8 0]) ∧ Own w' W.heap.size v' (nform s d.toNat root.toNat b) ∧ Below W.heap.size W w'):=fun W hW => norm_Form (HS.out.below hW) (HB.out.below hW) (by have:=HBL.out;omega) root d HBB.out.vb
       have HLL:=hid hbl2
       have hd1:=HBB.out.range
       obtain ⟨r,rfl⟩:∃ r:Nat,root = r:=⟨root.toNat,by omega⟩
       have hrl:r < s.length:=by omega
       have hsr:=HBB.out.right
       have hmx:=HBB.out.mxy
       have hmb:=HBB.out.mb
       have hmean:=HBB.out.means
       rw [Int.toNat_natCast] at HF1 HF2 hmx hmb hmean
       have lf1:=nform_len hsr d.toNat r (Y ++ Z) hrl hmx (by omega)
       have lf2:=nform_len hsr d.toNat r b hrl hmb (by have:=HBL.out;omega)
       have HT1:Hid ((vmsg s d.toNat r (nform s d.toNat r (Y ++ Z))).2 = 0 ∧ tof s d.toNat r (nform s d.toNat r (Y ++ Z)) = tof s d.toNat r (Y ++ Z)):=by
        obtain ⟨e',w',-,⟨v',-,-,hap⟩,-⟩:=(HRF.out hsr d.toNat r y2 _ (Y ++ Z) hrl HB9.out hU (by omega) hmx) []
        exact nform_means hsr hrl hmx (by omega) hap.here
       have HT2:Hid ((vmsg s d.toNat r (nform s d.toNat r b)).2 = 0 ∧ tof s d.toNat r (nform s d.toNat r b) = tof s d.toNat r b):=by
        obtain ⟨e',w',-,⟨v',-,-,hap⟩,-⟩:=(HRF.out hsr d.toNat r w _ b hrl (Below.refl _ _) HB.out (by have:=HBL.out;omega) hmb) []
        exact nform_means hsr hrl hmb (by have:=HBL.out;omega) hap.here
       obtain ⟨L,HL⟩:∃ L,Hid (L = nform s d.toNat r (Y ++ Z)):=⟨_,rfl⟩
       obtain ⟨K,HKK⟩:∃ L,Hid (L = nform s d.toNat r b):=⟨_,rfl⟩
       rw [← HL.out] at HF1 HT1 lf1
       rw [← HKK.out] at HF2 HT2 lf2
       have HLK:Hid (L.length ≤ 60000 ∧ K.length ≤ 30000):=⟨by omega,by have:=HBL.out;omega⟩
       have HME:Hid (plainM (d.toNat + 1) (tof s d.toNat r L) = plainM (d.toNat + 1) (tof s d.toNat r K)):=by
        show _ = _
        rw [HT1.out.2,HT2.out.2];exact hmean
       have HRO:Hid (∀ W v l,Below w.heap.size w W → Bytes W v l → l.length ≤ 60000 → (vmsg s d.toNat r l).2 = 0 → Calls Tryz.prog 18 #[.slice sa sn sc,.int .i64 (r:Int),v] W fun e w' => ∃ v',e = .returned v' ∧ Below W.heap.size W w' ∧ Apart 0 W.heap.size w' fun w2 => MsgAt (d.toNat + 1) w2 v' (tof s d.toNat r l)):=fun W v l hW hv hl hok => HRF.out hsr d.toNat r W v l hrl hW hv (by omega) hok
       have HR1:=hid e1
       have HR2:=hid e2
       clear hd1 hmx hmb hmean lf1 lf2 hU hb9 e1 e2 hbl2 HX4 HX5 HA5
       go_upto_region 22 with (first | (at_builtin;refine wpList_append_eq rfl _ _ _ rfl _ _ rfl rfl HR1.out ?_) | (at_builtin;refine wpList_append_eq rfl _ _ _ rfl _ _ rfl rfl HR2.out ?_))
       have HSTAT:=hid (And.intro HB9 (And.intro HLK (And.intro HT1 (And.intro HT2 HME))))
       clear HPW HPL HPAT HP HPL2 HYL HBB HN6 HX6 HXr HSM HJ HBr HB1 HB2 HB3 HB4 HB5 HB6 HN HPN HSN HLP HCC HYN HZN HNN HRN HBL HS HB HRF HLL HU HR1 HR2 hpn hi
       go_wp2_with fail
       refine HF1.out.mono ?_
       rintro e w10 ⟨v10,rfl,hO10,hb10⟩
       obtain ⟨a10,n10,c10,rfl⟩:=own_form' hO10
       have hL10:=hO10.bytes (by have:=HLK.out.1;omega)
       have HB10:=hid (HB9.out.trans (hb10.mono HB9.out.size))
       have HL10:=hid hL10
       clear hO10 hb10 hL10 HF1
       go_wp2_with fail
       refine (HF2.out _ HB10.out).mono ?_
       rintro e w11 ⟨v11,rfl,hO11,hb11⟩
       obtain ⟨a11,n11,c11,rfl⟩:=own_form' hO11
       have hK11:=hO11.bytes (by have:=HLK.out.2;omega)
       have HK11:=hid hK11
       have HB11:=hid (HB10.out.trans (hb11.mono HB10.out.size))
       have HO1:=hid (HRO.out w11 _ L HB11.out (HL10.out.below hb11) HLK.out.1 HT1.out.1)
       clear hO11 hb11 hK11 HF2 HL10
       go_wp2_with fail
       refine HO1.out.mono ?_
       rintro e w12 ⟨v12,rfl,hb12,hap12⟩
       have hM12:=hap12.here
       obtain ⟨z1,z1n,z1c,z2,z2n,z2c,rfl⟩:=hM12.form
       have HB12:=hid (HB11.out.trans (hb12.mono HB11.out.size))
       have HK12:=hid (HK11.out.below hb12)
       have HP1:=hid (ref15_Plain (w0:=w12) (d.toNat + 1) w12 _ _ (Below.refl _ _) hM12 (by have:=tof_weight s d.toNat r L;have:=HLK.out.1;omega))
       clear hb12 hap12 hM12 HK11 HO1
       go_wp2_with fail
       refine HP1.out.mono ?_
       rintro e w13 ⟨v13,rfl,hb13,hap13⟩
       have hP13:=hap13.here
       obtain ⟨q1,q1n,q1c,q2,q2n,q2c,rfl⟩:=hP13.form
       have HP13:=hid hP13
       have HB13:=hid (HB12.out.trans (hb13.mono HB12.out.size))
       have HO2:=hid (HRO.out w13 _ K HB13.out (HK12.out.below hb13) (by have:=HLK.out.2;omega) HT2.out.1)
       clear hb13 hap13 hP13 HK12 HP1
       go_wp2_with fail
       refine HO2.out.mono ?_
       rintro e w14 ⟨v14,rfl,hb14,hap14⟩
       have hM14:=hap14.here
       obtain ⟨y1,y1n,y1c,y2,y2n,y2c,rfl⟩:=hM14.form
       have HB14:=hid (HB13.out.trans (hb14.mono HB13.out.size))
       have HP14:=hid (HP13.out.below hb14)
       have HP2:=hid (ref15_Plain (w0:=w14) (d.toNat + 1) w14 _ _ (Below.refl _ _) hM14 (by have:=tof_weight s d.toNat r K;have:=HLK.out.2;omega))
       clear hb14 hap14 hM14 HP13 HO2
       go_wp2_with fail
       refine HP2.out.mono ?_
       rintro e w15 ⟨v15,rfl,hb15,hap15⟩
       have hP15:=hap15.here
       obtain ⟨x1,x1n,x1c,x2,x2n,x2c,rfl⟩:=hP15.form
       rw [← HME.out] at hP15
       have HP15:=hid (And.intro (HP14.out.below hb15) hP15)
       have HB15:=hid (HB14.out.trans (hb15.mono HB14.out.size))
       have HSA:Hid (∀ W,Below w15.heap.size w15 W → Calls Tryz.prog 20 #[.agg #[.slice q1 q1n q1c,.slice q2 q2n q2c],.agg #[.slice x1 x1n x1c,.slice x2 x2n x2c]] W fun e w' => e = .returned (.bool true) ∧ Below W.heap.size W w'):=fun W hW => ref14_Same (d.toNat + 1) W _ _ _ (HP15.out.1.below hW) (HP15.out.2.below hW)
       clear hb15 hap15 hP15 HP14 HP2 HRO
       obtain ⟨W16,HW16⟩:∃ W,Hid (W = (w15.alloc (.cells #[.slice q1 q1n q1c,.slice q2 q2n q2c] 45)).alloc (.cells #[.slice x1 x1n x1c,.slice x2 x2n x2c] 45)):=⟨_,rfl⟩
       have hb16:Below w15.heap.size w15 W16:=by rw [HW16.out];exact ((Below.refl _ _).alloc (Nat.le_refl _) _).alloc (by simp) _
       have HB16:=hid (HB15.out.trans (hb16.mono HB15.out.size))
       have HSC:=hid (HSA.out W16 hb16)
       clear hb16 HSA HB15 HB14 HB13 HB12 HB11 HB10
       go_wp2_with fail
       rw [← HW16.out]
       refine HSC.out.mono ?_
       rintro e w17 ⟨rfl,hb17⟩
       have HE:=hid (HTRUE.out w17 (HB16.out.trans (hb17.mono HB16.out.size)))
       clear hb17
       go_wp2_with fail
       exact HE.out
    ·
     obtain ⟨h1,h2⟩:=HYE.out hcc
     subst h1
     subst h2
     obtain rfl:yn = 0:=HYN.out
     obtain rfl:zn = 0:=HZN.out
     have hcb:=HCB.out
     have e3:((cc:Int) == 0) = false:=by simpa using hcc
     have e4:((cc:Int) != 0) = true:=by simpa using hcc
     clear hcc
     go_wp2_with fail
     exact HTRUE.out _ HB4.out
end Go.Proofs.YtfimpmennkfjcaaGreatDoor
