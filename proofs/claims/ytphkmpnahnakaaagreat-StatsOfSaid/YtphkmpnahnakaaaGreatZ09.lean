/- Parts of a proof: texts of the author, merged. No condition of their own. -/
import Derived.Test.YtphkmpnahnakaaaGreatZ08
import Init
namespace Go.Proofs.YtphkmpnahnakaaaGreat
open Go.RowKit
set_option maxRecDepth 100000 in
set_option maxHeartbeats 4000000 in
theorem ref10_Look {w:World} {v vf:Value} {l:List UInt8} {fs:List Fld} (h:Bytes w v l) (hf:FieldsAt w vf fs) (nm:ByteArray) (i:Nat) :
  Calls Tryz.prog 32 #[.agg #[.string nm,vf],v,.int .i64 i] w fun e w' => e = .returned (.tuple #[viewV (vlook fs l i).1 (vlook fs l i).2.1 (vlook fs l i).2.2.1,.int .i64 (vlook fs l i).2.2.2]) ∧ Below w.heap.size w w':=by
 obtain ⟨hflen,fa,fcap,rfl,hfat⟩:=hf.open
 obtain ⟨fl,HFL⟩:∃ fl,Hid (fl = fs.length):=⟨_,rfl⟩
 have HF:=hid hf
 rw [← HFL.out] at hflen hfat HF ⊢
 clear hfat hf
 obtain ⟨x,HX⟩:∃ x,Hid (x = vlook fs l i):=⟨_,rfl⟩
 rw [← HX.out]
 unfold vlook at HX
 obtain ⟨r,c,HR⟩:∃ r c,Hid (rnext l i = (r,c)):=⟨_,_,rfl⟩
 rw [HR.out] at HX
 simp only at HX
 go_enter Tryz.func32,Tryz.ntmps32
 go_wp2_with fail
 refine (ref05_Next (h.keep (w':=(w.alloc _).alloc _) (below_keeps (Below.alloc ((Below.refl _ _).alloc (Nat.le_refl _) _) (by simp) _))) i).mono ?_
 rintro e w1 ⟨rfl,hb⟩
 rw [HR.out]
 have hB0:Blk w1 w.heap.size [.string nm,.slice fa fl fcap] 51:=((Blk.new w _ _).alloc _).below hb
 have hB1:Blk w1 (w.heap.size + 1) (viewL .none 0 false) 73:=by
  refine Blk.below ?_ hb
  have:=Blk.new (w.alloc (.cells #[.string nm,.slice fa fl fcap] 51)) (viewL .none 0 false) 73
  rw [show (w.alloc (.cells #[.string nm,.slice fa fl fcap] 51)).heap.size = w.heap.size + 1 by simp] at this
  exact this
 have hb1:Below w.heap.size w w1:=below_step (Below.alloc ((Below.refl _ _).alloc (Nat.le_refl _) _) (by simp) _) hb (by simp;omega)
 have H0:=hid hB0
 have H1:=hid hB1
 have HB1:=hid hb1
 clear hB0 hB1 hb1
 obtain ⟨B1,HBB⟩:∃ B1,Hid (B1 = w.heap.size + 1):=⟨_,rfl⟩
 obtain ⟨B0,HBA⟩:∃ B0,Hid (B0 = w.heap.size):=⟨_,rfl⟩
 rw [← HBB.out] at H1 ⊢
 rw [← HBA.out] at H0 ⊢
 have hwB1:w.heap.size ≤ B1:=by rw [HBB.out];omega
 have hws:w.heap.size ≤ w1.heap.size:=HB1.out.size
 by_cases hc:c = 0
 ·
  subst hc
  have HX0:Hid (x = if fieldAt fs r.number < 0 then (r,-1,false,0) else
   if ((fs.getD (fieldAt fs r.number).toNat .zero).rep && knumber (fs.getD (fieldAt fs r.number).toNat .zero).kind && decide (r.wire = 2)) = true then (r,fieldAt fs r.number,true,0) else
   if kright (fs.getD (fieldAt fs r.number).toNat .zero).kind = false ∨ kwire (fs.getD (fieldAt fs r.number).toNat .zero).kind ≠ r.wire then (.none,0,false,6) else (r,fieldAt fs r.number,false,0)):=by
   rw [Hid,HX.out,if_neg (by decide)]
  obtain ⟨r1,r2,r3,r4,r5⟩:=r
  unfold Rec.val
  simp only
  have m0:=H0.out.cell 0 _ rfl
  have m1:=H0.out.cell 1 _ rfl
  have mlt:=H0.out.lt
  have HM1:Hid (Blk (w1.alloc (.cells #[.int .i64 r1,.int .i64 r2,.int .i64 r3,.int .i64 r4,.int .i64 r5] 71)) w1.heap.size (recL ⟨r1,r2,r3,r4,r5⟩) 71 ∧ Blk (w1.alloc (.cells #[.int .i64 r1,.int .i64 r2,.int .i64 r3,.int .i64 r4,.int .i64 r5] 71)) B0 [.string nm,.slice fa fl fcap] 51 ∧ Blk (w1.alloc (.cells #[.int .i64 r1,.int .i64 r2,.int .i64 r3,.int .i64 r4,.int .i64 r5] 71)) B1 (viewL .none 0 false) 73 ∧ Below w.heap.size w (w1.alloc (.cells #[.int .i64 r1,.int .i64 r2,.int .i64 r3,.int .i64 r4,.int .i64 r5] 71))):=
   ⟨Blk.new w1 (recL ⟨r1,r2,r3,r4,r5⟩) _,H0.out.alloc _,H1.out.alloc _,HB1.out.alloc hws _⟩
  have HF1:Hid (FieldsAt (w1.alloc (.cells #[.int .i64 r1,.int .i64 r2,.int .i64 r3,.int .i64 r4,.int .i64 r5] 71)) (.slice fa fl fcap) fs):=HF.out.keep (below_keeps HM1.out.2.2.2)
  have r0:=HM1.out.1.cell 0 _ rfl
  go_wp2_with fail
  refine (ref07_Field HF1.out nm _).mono ?_
  rintro e w2 ⟨rfl,hb2⟩
  obtain ⟨q,HQ⟩:∃ q,Hid (q = w1.heap.size):=⟨_,rfl⟩
  have HR2:Hid (Blk w2 q (recL ⟨r1,r2,r3,r4,r5⟩) 71 ∧ Blk w2 B0 [.string nm,.slice fa fl fcap] 51 ∧ Blk w2 B1 (viewL .none 0 false) 73 ∧ Below w.heap.size w w2):=by
   rw [HQ.out]
   exact ⟨HM1.out.1.below hb2,HM1.out.2.1.below hb2,HM1.out.2.2.1.below hb2,below_step HM1.out.2.2.2 hb2 HM1.out.2.2.2.size⟩
  clear hb2 r0 m0 m1 mlt
  rw [← HQ.out]
  have q0:=HR2.out.1.cell 0 _ rfl
  have q1:=HR2.out.1.cell 1 _ rfl
  have q2:=HR2.out.1.cell 2 _ rfl
  have q3:=HR2.out.1.cell 3 _ rfl
  have q4:=HR2.out.1.cell 4 _ rfl
  have m0:=HR2.out.2.1.cell 0 _ rfl
  have m1:=HR2.out.2.1.cell 1 _ rfl
  have ml:=HR2.out.2.1.lt
  have b0:=HR2.out.2.2.1.cell 0 _ rfl
  have b1:=HR2.out.2.2.1.cell 1 _ rfl
  have b2:=HR2.out.2.2.1.cell 2 _ rfl
  have b3:=HR2.out.2.2.1.cell 3 _ rfl
  have b4:=HR2.out.2.2.1.cell 4 _ rfl
  have b5:=HR2.out.2.2.1.cell 5 _ rfl
  have b6:=HR2.out.2.2.1.cell 6 _ rfl
  have bz:=HR2.out.2.2.1.free
  have blt:=HR2.out.2.2.1.lt
  obtain ⟨k,HKE⟩:∃ k,Hid (k = fieldAt fs r1):=⟨_,rfl⟩
  have HX2:=HX0.out
  rw [← HKE.out] at HX2 ⊢
  have HX3:=hid HX2
  clear HX2
  by_cases hk:k < 0
  ·
   obtain rfl:k = -1:=by
    rcases firstAt_bd (fun f:Fld => decide (f.number = (r1:Int))) fs 0 with e | ⟨j,e,h1,h2⟩
    ·
     rw [HKE.out];exact e
    ·
     have:k = j:=by rw [HKE.out];exact e
     omega
   obtain rfl:x = (⟨r1,r2,r3,r4,r5⟩,-1,false,0):=by rw [HX3.out,if_pos (by omega)]
   go_wp2
   refine bodyPost_ret (v:=.tuple #[viewV ⟨r1,r2,r3,r4,r5⟩ (-1) false,.int .i64 0]) ?_ rfl ⟨rfl,?_⟩
   ·
    simp [results,Tryz.results32,go_sem,viewV,Rec.none,b0,b1,b2,b3,b4,b5,b6]
   ·
    (repeat (first | with_reducible exact Below.refl _ _ | with_reducible refine Below.setCell ?_ (by first | omega | (simp;omega) | (simp;done)) _ | with_reducible refine Below.alloc ?_ (by first | omega | (simp;omega) | (simp;done)) _ | with_reducible refine below_drewN ?_ _ | with_reducible refine Below.drew ?_))
    exact HR2.out.2.2.2
  ·
   obtain ⟨K,HKK,hKl⟩:∃ K:Nat,Hid (k = K) ∧ K < fl:=by
    rcases firstAt_bd (fun f:Fld => decide (f.number = (r1:Int))) fs 0 with e | ⟨j,e,h1,h2⟩
    ·
     have:k = -1:=by rw [HKE.out];exact e
     omega
    ·
     exact ⟨j,by rw [Hid,HKE.out];exact e,by rw [HFL.out];omega⟩
   rw [HKK.out] at HX3 ⊢
   clear hk
   have HX4:Hid (x = if ((fs.getD K .zero).rep && knumber (fs.getD K .zero).kind && decide (r2 = 2)) = true then (⟨r1,r2,r3,r4,r5⟩,(K:Int),true,0) else
    if kright (fs.getD K .zero).kind = false ∨ kwire (fs.getD K .zero).kind ≠ r2 then (.none,0,false,6) else (⟨r1,r2,r3,r4,r5⟩,(K:Int),false,0)):=by
    rw [Hid,HX3.out,if_neg (by omega)];rfl
   have hfc:FieldsAt w2 (.slice fa fl fcap) fs:=by
    exact HF.out.keep (below_keeps HR2.out.2.2.2)
   obtain ⟨-,fa',fcap',hv',hfat⟩:=hfc.open
   cases hv'
   obtain ⟨fb,fo,hfa,hfok,g0,g1,g2,g3,g4,g5⟩:=hfat K (by rw [← HFL.out];exact hKl)
   have hixf:=index_run Tryz.underlying49 size_fld hfa K hKl (cap:=fcap)
   have HFA:=hid hfa
   clear hfa hfat hfc
   obtain ⟨f,HFF⟩:∃ f,Hid (f = fs.getD K .zero):=⟨_,rfl⟩
   rw [← HFF.out] at hfok g0 g1 g2 g3 g4 g5 HX4
   have HFO:=hid hfok
   clear hfok
   obtain ⟨fname,fnumber,fkind,frep,fpacked,fof⟩:=f
   simp only at g0 g1 g2 g3 g4 g5 HX4
   obtain ⟨run,HRUN⟩:∃ run,Hid (run = (frep && knumber fkind && decide (r2 = 2))):=⟨_,rfl⟩
   rw [← HRUN.out] at HX4
   obtain ⟨W3,HW3⟩:∃ W3,Hid (W3 = w2.alloc (.cells #[.string fname,.int .i64 fnumber,.int .i64 fkind,.bool frep,.bool fpacked,.int .i64 fof] 48)):=⟨_,rfl⟩
   have HV:Hid (Blk W3 w2.heap.size [.string fname,.int .i64 fnumber,.int .i64 fkind,.bool frep,.bool fpacked,.int .i64 fof] 48 ∧ Blk W3 q (recL ⟨r1,r2,r3,r4,r5⟩) 71 ∧ Blk W3 B1 (viewL .none 0 false) 73 ∧ Below w.heap.size w W3):=by
    rw [HW3.out]
    exact ⟨Blk.new w2 _ _,HR2.out.1.alloc _,HR2.out.2.2.1.alloc _,HR2.out.2.2.2.alloc HR2.out.2.2.2.size _⟩
   have z1:=HV.out.2.1.cell 1 _ rfl
   have z2:=HV.out.1.cell 2 _ rfl
   have z3:=HV.out.1.cell 3 _ rfl
   have HZ:=hid (show (∀ j u,(recL ⟨r1,r2,r3,r4,r5⟩)[j]? = some u → W3.cell? ⟨q,j,none⟩ = some u) from fun j u hu => HV.out.2.1.cell j u hu)
   have zlt:=HV.out.2.1.lt
   have zblt:=HV.out.2.2.1.lt
   rw [HW3.out] at z1 z2 z3 zlt zblt
   by_cases hrun:run = true
   ·
    have hr3:=hrun
    rw [HRUN.out] at hr3
    simp only [Bool.and_eq_true,decide_eq_true_eq] at hr3
    obtain ⟨⟨rfl,hkn⟩,rfl⟩:=hr3
    obtain rfl:x = (⟨r1,2,r3,r4,r5⟩,(K:Int),true,0):=by rw [HX4.out,if_pos hrun]
    have y0:=HZ.out 0 _ rfl
    have y1:=HZ.out 1 _ rfl
    have y2:=HZ.out 2 _ rfl
    have y3:=HZ.out 3 _ rfl
    have y4:=HZ.out 4 _ rfl
    rw [HW3.out] at y0 y1 y2 y3 y4
    have HRT:=hid hrun
    clear hrun
    have HKN:=hid hkn
    clear hkn
    go_wp2_with (go_at_call 39;refine (ref06_Number fkind _).mono ?_;rintro e w' ⟨rfl,rfl⟩;rw [HKN.out])
    refine bodyPost_ret (v:=.tuple #[viewV ⟨r1,2,r3,r4,r5⟩ K true,.int .i64 0]) ?_ rfl ⟨rfl,?_⟩
    ·
     simp [results,Tryz.results32,go_sem,viewV,Rec.none,b0,b1,b2,b3,b4,b5,b6,blt]
    ·
     (repeat (first | with_reducible exact Below.refl _ _ | with_reducible refine Below.setCell ?_ (by first | omega | (simp;omega) | (simp;done)) _ | with_reducible refine Below.alloc ?_ (by first | omega | (simp;omega) | (simp;done)) _ | with_reducible refine below_drewN ?_ _ | with_reducible refine Below.drew ?_))
     exact HR2.out.2.2.2
   ·
    have HRF:Hid ((frep = false) ∨ (frep = true ∧ knumber fkind = false) ∨ (frep = true ∧ knumber fkind = true ∧ r2 ≠ 2)):=by
     rw [HRUN.out] at hrun
     cases frep <;> cases hkn:knumber fkind <;> simp_all [Hid]
    have HX5:Hid (x = if kright fkind = false ∨ kwire fkind ≠ r2 then (.none,0,false,6) else (⟨r1,r2,r3,r4,r5⟩,(K:Int),false,0)):=by rw [Hid,HX4.out,if_neg hrun]
    clear hrun
    have y0:=HZ.out 0 _ rfl
    have y2:=HZ.out 2 _ rfl
    have y3:=HZ.out 3 _ rfl
    have y4:=HZ.out 4 _ rfl
    rw [HW3.out] at y0 y2 y3 y4
    rcases HRF.out with rfl | ⟨rfl,hkn⟩ | ⟨rfl,hkn,h2⟩
    ·
     go_wp2_with fail
     cases hkr:kright fkind with
     | false =>
      obtain rfl:x = (.none,0,false,6):=by rw [HX5.out,if_pos (.inl hkr)]
      have HKR:=hid hkr
      clear hkr
      go_quiet ((go_at_call 54;exact quiet_eq (by have:=ref06_Right fkind;rw [HKR.out] at this;exact this _)))
      go_wp2
      refine bodyPost_ret (v:=.tuple #[viewV .none 0 false,.int .i64 6]) ?_ rfl ⟨rfl,?_⟩
      ·
       simp [results,Tryz.results32,go_sem,viewV,Rec.none,b0,b1,b2,b3,b4,b5,b6,blt]
      ·
       (repeat (first | with_reducible exact Below.refl _ _ | with_reducible refine Below.setCell ?_ (by first | omega | (simp;omega) | (simp;done)) _ | with_reducible refine Below.alloc ?_ (by first | omega | (simp;omega) | (simp;done)) _ | with_reducible refine below_drewN ?_ _ | with_reducible refine Below.drew ?_))
       exact HR2.out.2.2.2
     | true =>
      have HKR:=hid hkr
      clear hkr
      by_cases hw:kwire fkind = r2
      ·
       obtain rfl:x = (⟨r1,r2,r3,r4,r5⟩,(K:Int),false,0):=by rw [HX5.out,if_neg (by simp [HKR.out,hw])]
       obtain ⟨wr2,HWR⟩:∃ wr2,Hid (wr2 = kwire fkind):=⟨_,rfl⟩
       rw [← HWR.out] at hw
       have hw':((wr2:Int) == (r2:Int)) = true:=by simp;omega
       have hw2:((wr2:Int) != (r2:Int)) = false:=by simp;omega
       have HW:=hid hw
       clear hw
       go_quiet (first | (go_at_call 54;exact quiet_eq (by have:=ref06_Right fkind;rw [HKR.out] at this;exact this _)) | (go_at_call 55;exact quiet_eq (by have:=ref06_Wire fkind HKR.out;rw [← HWR.out] at this;exact this _)))
       go_wp2
       refine bodyPost_ret (v:=.tuple #[viewV ⟨r1,r2,r3,r4,r5⟩ K false,.int .i64 0]) ?_ rfl ⟨rfl,?_⟩
       ·
        simp [results,Tryz.results32,go_sem,viewV,Rec.none,b0,b1,b2,b3,b4,b5,b6,blt]
       ·
        (repeat (first | with_reducible exact Below.refl _ _ | with_reducible refine Below.setCell ?_ (by first | omega | (simp;omega) | (simp;done)) _ | with_reducible refine Below.alloc ?_ (by first | omega | (simp;omega) | (simp;done)) _ | with_reducible refine below_drewN ?_ _ | with_reducible refine Below.drew ?_))
        exact HR2.out.2.2.2
      ·
       obtain rfl:x = (.none,0,false,6):=by rw [HX5.out,if_pos (.inr hw)]
       obtain ⟨wr2,HWR⟩:∃ wr2,Hid (wr2 = kwire fkind):=⟨_,rfl⟩
       rw [← HWR.out] at hw
       have hw':((wr2:Int) == (r2:Int)) = false:=by simp;omega
       have hw2:((wr2:Int) != (r2:Int)) = true:=by simp;omega
       have HW:=hid hw
       clear hw
       go_quiet (first | (go_at_call 54;exact quiet_eq (by have:=ref06_Right fkind;rw [HKR.out] at this;exact this _)) | (go_at_call 55;exact quiet_eq (by have:=ref06_Wire fkind HKR.out;rw [← HWR.out] at this;exact this _)))
       go_wp2
       refine bodyPost_ret (v:=.tuple #[viewV .none 0 false,.int .i64 6]) ?_ rfl ⟨rfl,?_⟩
       ·
        simp [results,Tryz.results32,go_sem,viewV,Rec.none,b0,b1,b2,b3,b4,b5,b6,blt]
       ·
        (repeat (first | with_reducible exact Below.refl _ _ | with_reducible refine Below.setCell ?_ (by first | omega | (simp;omega) | (simp;done)) _ | with_reducible refine Below.alloc ?_ (by first | omega | (simp;omega) | (simp;done)) _ | with_reducible refine below_drewN ?_ _ | with_reducible refine Below.drew ?_))
        exact HR2.out.2.2.2
    ·
     have HKN:=hid hkn
     clear hkn
     go_wp2_with (go_at_call 39;refine (ref06_Number fkind _).mono ?_;rintro e w' ⟨rfl,rfl⟩;rw [HKN.out])
     cases hkr:kright fkind with
     | false =>
      obtain rfl:x = (.none,0,false,6):=by rw [HX5.out,if_pos (.inl hkr)]
      have HKR:=hid hkr
      clear hkr
      go_quiet ((go_at_call 54;exact quiet_eq (by have:=ref06_Right fkind;rw [HKR.out] at this;exact this _)))
      go_wp2
      refine bodyPost_ret (v:=.tuple #[viewV .none 0 false,.int .i64 6]) ?_ rfl ⟨rfl,?_⟩
      ·
       simp [results,Tryz.results32,go_sem,viewV,Rec.none,b0,b1,b2,b3,b4,b5,b6,blt]
      ·
       (repeat (first | with_reducible exact Below.refl _ _ | with_reducible refine Below.setCell ?_ (by first | omega | (simp;omega) | (simp;done)) _ | with_reducible refine Below.alloc ?_ (by first | omega | (simp;omega) | (simp;done)) _ | with_reducible refine below_drewN ?_ _ | with_reducible refine Below.drew ?_))
       exact HR2.out.2.2.2
     | true =>
      have HKR:=hid hkr
      clear hkr
      by_cases hw:kwire fkind = r2
      ·
       obtain rfl:x = (⟨r1,r2,r3,r4,r5⟩,(K:Int),false,0):=by rw [HX5.out,if_neg (by simp [HKR.out,hw])]
       obtain ⟨wr2,HWR⟩:∃ wr2,Hid (wr2 = kwire fkind):=⟨_,rfl⟩
       rw [← HWR.out] at hw
       have hw':((wr2:Int) == (r2:Int)) = true:=by simp;omega
       have hw2:((wr2:Int) != (r2:Int)) = false:=by simp;omega
       have HW:=hid hw
       clear hw
       go_quiet (first | (go_at_call 54;exact quiet_eq (by have:=ref06_Right fkind;rw [HKR.out] at this;exact this _)) | (go_at_call 55;exact quiet_eq (by have:=ref06_Wire fkind HKR.out;rw [← HWR.out] at this;exact this _)))
       go_wp2
       refine bodyPost_ret (v:=.tuple #[viewV ⟨r1,r2,r3,r4,r5⟩ K false,.int .i64 0]) ?_ rfl ⟨rfl,?_⟩
       ·
        simp [results,Tryz.results32,go_sem,viewV,Rec.none,b0,b1,b2,b3,b4,b5,b6,blt]
       ·
        (repeat (first | with_reducible exact Below.refl _ _ | with_reducible refine Below.setCell ?_ (by first | omega | (simp;omega) | (simp;done)) _ | with_reducible refine Below.alloc ?_ (by first | omega | (simp;omega) | (simp;done)) _ | with_reducible refine below_drewN ?_ _ | with_reducible refine Below.drew ?_))
        exact HR2.out.2.2.2
      ·
       obtain rfl:x = (.none,0,false,6):=by rw [HX5.out,if_pos (.inr hw)]
       obtain ⟨wr2,HWR⟩:∃ wr2,Hid (wr2 = kwire fkind):=⟨_,rfl⟩
       rw [← HWR.out] at hw
       have hw':((wr2:Int) == (r2:Int)) = false:=by simp;omega
       have hw2:((wr2:Int) != (r2:Int)) = true:=by simp;omega
       have HW:=hid hw
       clear hw
       go_quiet (first | (go_at_call 54;exact quiet_eq (by have:=ref06_Right fkind;rw [HKR.out] at this;exact this _)) | (go_at_call 55;exact quiet_eq (by have:=ref06_Wire fkind HKR.out;rw [← HWR.out] at this;exact this _)))
       go_wp2
       refine bodyPost_ret (v:=.tuple #[viewV .none 0 false,.int .i64 6]) ?_ rfl ⟨rfl,?_⟩
       ·
        simp [results,Tryz.results32,go_sem,viewV,Rec.none,b0,b1,b2,b3,b4,b5,b6,blt]
       ·
        (repeat (first | with_reducible exact Below.refl _ _ | with_reducible refine Below.setCell ?_ (by first | omega | (simp;omega) | (simp;done)) _ | with_reducible refine Below.alloc ?_ (by first | omega | (simp;omega) | (simp;done)) _ | with_reducible refine below_drewN ?_ _ | with_reducible refine Below.drew ?_))
        exact HR2.out.2.2.2
    ·
     have HKN:=hid hkn
     have h2':((r2:Int) == 2) = false:=by simp;omega
     have H2:=hid h2
     clear hkn h2
     go_wp2_with (go_at_call 39;refine (ref06_Number fkind _).mono ?_;rintro e w' ⟨rfl,rfl⟩;rw [HKN.out])
     cases hkr:kright fkind with
     | false =>
      obtain rfl:x = (.none,0,false,6):=by rw [HX5.out,if_pos (.inl hkr)]
      have HKR:=hid hkr
      clear hkr
      go_quiet ((go_at_call 54;exact quiet_eq (by have:=ref06_Right fkind;rw [HKR.out] at this;exact this _)))
      go_wp2
      refine bodyPost_ret (v:=.tuple #[viewV .none 0 false,.int .i64 6]) ?_ rfl ⟨rfl,?_⟩
      ·
       simp [results,Tryz.results32,go_sem,viewV,Rec.none,b0,b1,b2,b3,b4,b5,b6,blt]
      ·
       (repeat (first | with_reducible exact Below.refl _ _ | with_reducible refine Below.setCell ?_ (by first | omega | (simp;omega) | (simp;done)) _ | with_reducible refine Below.alloc ?_ (by first | omega | (simp;omega) | (simp;done)) _ | with_reducible refine below_drewN ?_ _ | with_reducible refine Below.drew ?_))
       exact HR2.out.2.2.2
     | true =>
      have HKR:=hid hkr
      clear hkr
      by_cases hw:kwire fkind = r2
      ·
       obtain rfl:x = (⟨r1,r2,r3,r4,r5⟩,(K:Int),false,0):=by rw [HX5.out,if_neg (by simp [HKR.out,hw])]
       obtain ⟨wr2,HWR⟩:∃ wr2,Hid (wr2 = kwire fkind):=⟨_,rfl⟩
       rw [← HWR.out] at hw
       have hw':((wr2:Int) == (r2:Int)) = true:=by simp;omega
       have hw2:((wr2:Int) != (r2:Int)) = false:=by simp;omega
       have HW:=hid hw
       clear hw
       go_quiet (first | (go_at_call 54;exact quiet_eq (by have:=ref06_Right fkind;rw [HKR.out] at this;exact this _)) | (go_at_call 55;exact quiet_eq (by have:=ref06_Wire fkind HKR.out;rw [← HWR.out] at this;exact this _)))
       go_wp2
       refine bodyPost_ret (v:=.tuple #[viewV ⟨r1,r2,r3,r4,r5⟩ K false,.int .i64 0]) ?_ rfl ⟨rfl,?_⟩
       ·
        simp [results,Tryz.results32,go_sem,viewV,Rec.none,b0,b1,b2,b3,b4,b5,b6,blt]
       ·
        (repeat (first | with_reducible exact Below.refl _ _ | with_reducible refine Below.setCell ?_ (by first | omega | (simp;omega) | (simp;done)) _ | with_reducible refine Below.alloc ?_ (by first | omega | (simp;omega) | (simp;done)) _ | with_reducible refine below_drewN ?_ _ | with_reducible refine Below.drew ?_))
        exact HR2.out.2.2.2
      ·
       obtain rfl:x = (.none,0,false,6):=by rw [HX5.out,if_pos (.inr hw)]
       obtain ⟨wr2,HWR⟩:∃ wr2,Hid (wr2 = kwire fkind):=⟨_,rfl⟩
       rw [← HWR.out] at hw
       have hw':((wr2:Int) == (r2:Int)) = false:=by simp;omega
       have hw2:((wr2:Int) != (r2:Int)) = true:=by simp;omega
       have HW:=hid hw
       clear hw
       go_quiet (first | (go_at_call 54;exact quiet_eq (by have:=ref06_Right fkind;rw [HKR.out] at this;exact this _)) | (go_at_call 55;exact quiet_eq (by have:=ref06_Wire fkind HKR.out;rw [← HWR.out] at this;exact this _)))
       go_wp2
       refine bodyPost_ret (v:=.tuple #[viewV .none 0 false,.int .i64 6]) ?_ rfl ⟨rfl,?_⟩
       ·
        simp [results,Tryz.results32,go_sem,viewV,Rec.none,b0,b1,b2,b3,b4,b5,b6,blt]
       ·
        (repeat (first | with_reducible exact Below.refl _ _ | with_reducible refine Below.setCell ?_ (by first | omega | (simp;omega) | (simp;done)) _ | with_reducible refine Below.alloc ?_ (by first | omega | (simp;omega) | (simp;done)) _ | with_reducible refine below_drewN ?_ _ | with_reducible refine Below.drew ?_))
        exact HR2.out.2.2.2
 ·
  have hc':((c:Int) == 0) = false:=by simp;omega
  have hc2:((c:Int) != 0) = true:=by simp;omega
  obtain rfl:x = (.none,0,false,c):=by rw [HX.out,if_pos hc]
  have HC:=hid hc
  clear hc
  obtain ⟨r1,r2,r3,r4,r5⟩:=r
  unfold Rec.val
  simp only
  have b0:=H1.out.cell 0 _ rfl
  have b1:=H1.out.cell 1 _ rfl
  have b2:=H1.out.cell 2 _ rfl
  have b3:=H1.out.cell 3 _ rfl
  have b4:=H1.out.cell 4 _ rfl
  have b5:=H1.out.cell 5 _ rfl
  have b6:=H1.out.cell 6 _ rfl
  have bz:=H1.out.free
  have blt:=H1.out.lt
  go_wp2
  refine bodyPost_ret (v:=.tuple #[viewV .none 0 false,.int .i64 c]) ?_ rfl ⟨rfl,?_⟩
  ·
   simp [results,Tryz.results32,go_sem,viewV,Rec.none,b0,b1,b2,b3,b4,b5,b6,blt]
  ·
   (repeat (first | with_reducible exact Below.refl _ _ | with_reducible refine Below.setCell ?_ (by first | omega | (simp;omega) | (simp;done)) _ | with_reducible refine Below.alloc ?_ (by first | omega | (simp;omega) | (simp;done)) _ | with_reducible refine below_drewN ?_ _ | with_reducible refine Below.drew ?_))
   exact HB1.out
end Go.Proofs.YtphkmpnahnakaaaGreat
namespace Go.Proofs.YtphkmpnahnakaaaGreat
open Go.RowKit
def runSize (wire:Nat) (l:List UInt8):Nat × Nat:=
 if wire = 0 then ((vread l).2.1,(vread l).2.2) else
 if l.length < (if wire = 1 then 8 else 4) then (0,3) else (if wire = 1 then 8 else 4,0)
set_option maxRecDepth 100000 in
set_option maxHeartbeats 2000000 in
theorem run_size {w:World} {v:Value} {l:List UInt8} (h:Bytes w v l) (wire:Nat) :
  Calls Tryz.prog 145 #[.int .i64 wire,v] w fun e w' => e = .returned (.tuple #[.int .i64 (runSize wire l).1,.int .u8 (runSize wire l).2]) ∧ w = w':=by
 obtain ⟨hlen,a,cap,rfl,-,-,-,hcell⟩:=h.open
 obtain ⟨n,HN⟩:∃ n,Hid (n = l.length):=⟨_,rfl⟩
 obtain ⟨x,HX⟩:∃ x,Hid (x = runSize wire l):=⟨_,rfl⟩
 rw [← HX.out]
 unfold runSize at HX
 rw [← HN.out] at HX hlen hcell h ⊢
 clear hcell
 by_cases h0:wire = 0
 ·
  subst h0
  obtain rfl:x = ((vread l).2.1,(vread l).2.2):=by rw [HX.out,if_pos rfl]
  go_enter Tryz.func145,Tryz.ntmps145
  go_wp2_with (go_at_call 134;refine (varint_Skip h).mono ?_;rintro e w' ⟨rfl,rfl⟩)
  go_ret2
  exact ⟨rfl,rfl⟩
 ·
  by_cases h1:wire = 1
  ·
   subst h1
   by_cases hs:n < 8
   ·
    obtain rfl:x = (0,3):=by rw [HX.out,if_neg (by decide),if_pos (by simpa using hs)]
    go_enter Tryz.func145,Tryz.ntmps145
    go_wp2
    go_ret2
    exact ⟨rfl,rfl⟩
   ·
    obtain rfl:x = (8,0):=by rw [HX.out,if_neg (by decide),if_neg (by simpa using hs)];rfl
    go_enter Tryz.func145,Tryz.ntmps145
    go_wp2
    go_ret2
    exact ⟨rfl,rfl⟩
  ·
   have e0:((wire:Int) == 0) = false:=by simp;omega
   have e1:((wire:Int) == 1) = false:=by simp;omega
   have HI1:=hid h1
   have HI0:=hid h0
   clear h0 h1
   by_cases hs:n < 4
   ·
    obtain rfl:x = (0,3):=by rw [HX.out,if_neg HI0.out,if_pos (by rw [if_neg HI1.out];exact hs)]
    go_enter Tryz.func145,Tryz.ntmps145
    go_wp2
    go_ret2
    exact ⟨rfl,rfl⟩
   ·
    obtain rfl:x = (4,0):=by rw [HX.out,if_neg HI0.out,if_neg (by rw [if_neg HI1.out];exact hs),if_neg HI1.out]
    go_enter Tryz.func145,Tryz.ntmps145
    go_wp2
    go_ret2
    exact ⟨rfl,rfl⟩
end Go.Proofs.YtphkmpnahnakaaaGreat
namespace Go.Proofs.YtphkmpnahnakaaaGreat
open Go.RowKit
theorem runSize_cases (wire:Nat) (l:List UInt8):(∃ n,runSize wire l = (n,0) ∧ 0 < n ∧ n ≤ 10 ∧ n ≤ l.length) ∨ (∃ c,runSize wire l = (0,c) ∧ (c = 3 ∨ c = 4)):=by
 unfold runSize
 by_cases h0:wire = 0
 ·
  rw [if_pos h0]
  rcases vread_cases l with ⟨x,n,e,h1,h2,h3,-⟩ | ⟨c,e,hc⟩
  ·
   exact .inl ⟨n,by rw [e],h1,h2,h3⟩
  ·
   exact .inr ⟨c,by rw [e],hc⟩
 ·
  rw [if_neg h0]
  by_cases h1:l.length < (if wire = 1 then 8 else 4)
  ·
   rw [if_pos h1];exact .inr ⟨3,rfl,.inl rfl⟩
  ·
   rw [if_neg h1]
   refine .inl ⟨_,rfl,?_,?_,by omega⟩ <;> split <;> omega
def runGo (wire:Nat):Nat → List UInt8 → Nat × Nat
 | 0,_ => (0,0)
 | k + 1,l => if l = [] then (0,0) else
   if (runSize wire l).2 ≠ 0 then (0,(runSize wire l).2) else
   if (runGo wire k (l.drop (runSize wire l).1)).2 ≠ 0 then (0,(runGo wire k (l.drop (runSize wire l).1)).2) else
   ((runGo wire k (l.drop (runSize wire l).1)).1 + 1,0)
def runCount (wire:Nat) (l:List UInt8):Nat × Nat:=runGo wire l.length l
theorem runGo_fuel (wire:Nat):∀ (k m:Nat) (l:List UInt8),l.length ≤ k → l.length ≤ m → runGo wire k l = runGo wire m l
 | 0,0,_,_,_ => rfl
 | 0,m + 1,l,h,_ => by
  have:l = []:=List.length_eq_zero_iff.1 (by omega)
  subst this
  simp [runGo]
 | k + 1,0,l,_,h => by
  have:l = []:=List.length_eq_zero_iff.1 (by omega)
  subst this
  simp [runGo]
 | k + 1,m + 1,l,h1,h2 => by
  by_cases hl:l = []
  ·
   simp [runGo,hl]
  ·
   rcases runSize_cases wire l with ⟨n,e,h3,-,h4⟩ | ⟨c,e,hc⟩
   ·
    have:=runGo_fuel wire k m (l.drop n) (by simp;omega) (by simp;omega)
    simp only [runGo,e,this]
   ·
    have hc':c ≠ 0:=by omega
    simp only [runGo,e,if_neg hl,if_pos hc']
theorem runCount_nil (wire:Nat):runCount wire [] = (0,0):=rfl
theorem runCount_bad (wire:Nat) (l:List UInt8) (hl:l ≠ []) (c:Nat) (hc:c ≠ 0) (e:(runSize wire l).2 = c):runCount wire l = (0,c):=by
 obtain ⟨k,hk⟩:∃ k,l.length = k + 1:=⟨l.length - 1,by have:=List.length_pos_iff.2 hl;omega⟩
 unfold runCount
 rw [hk]
 simp only [runGo,if_neg hl,e,if_pos hc]
theorem runCount_step (wire:Nat) (l:List UInt8) (hl:l ≠ []) (n:Nat) (e:runSize wire l = (n,0)) :
  runCount wire l = if (runCount wire (l.drop n)).2 ≠ 0 then (0,(runCount wire (l.drop n)).2) else ((runCount wire (l.drop n)).1 + 1,0):=by
 obtain ⟨k,hk⟩:∃ k,l.length = k + 1:=⟨l.length - 1,by have:=List.length_pos_iff.2 hl;omega⟩
 have hn:0 < n:=by
  rcases runSize_cases wire l with ⟨n',e',h3,-,h4⟩ | ⟨c,e',hc⟩
  ·
   rw [e] at e';cases e';exact h3
  ·
   rw [e] at e';cases e';omega
 have hf:=runGo_fuel wire k (l.drop n).length (l.drop n) (by simp;omega) (Nat.le_refl _)
 unfold runCount
 rw [hk]
 simp only [runGo,if_neg hl,e,hf]
 simp
/-! the values themselves -/
def rpiecesGo (wire:Nat):Nat → List UInt8 → List (List UInt8)
 | 0,_ => []
 | k + 1,l => if l = [] then [] else if (runSize wire l).2 ≠ 0 then [] else l.take (runSize wire l).1 :: rpiecesGo wire k (l.drop (runSize wire l).1)
def rpieces (wire:Nat) (l:List UInt8):List (List UInt8):=rpiecesGo wire l.length l
theorem rpiecesGo_fuel (wire:Nat):∀ (k m:Nat) (l:List UInt8),l.length ≤ k → l.length ≤ m → rpiecesGo wire k l = rpiecesGo wire m l
 | 0,0,_,_,_ => rfl
 | 0,m + 1,l,h,_ => by
  have:l = []:=List.length_eq_zero_iff.1 (by omega)
  subst this
  simp [rpiecesGo]
 | k + 1,0,l,_,h => by
  have:l = []:=List.length_eq_zero_iff.1 (by omega)
  subst this
  simp [rpiecesGo]
 | k + 1,m + 1,l,h1,h2 => by
  by_cases hl:l = []
  ·
   simp [rpiecesGo,hl]
  ·
   rcases runSize_cases wire l with ⟨n,e,h3,-,h4⟩ | ⟨c,e,hc⟩
   ·
    have:=rpiecesGo_fuel wire k m (l.drop n) (by simp;omega) (by simp;omega)
    simp only [rpiecesGo,e,this]
   ·
    have hc':c ≠ 0:=by omega
    simp only [rpiecesGo,e,if_neg hl,if_pos hc']
theorem rpieces_nil (wire:Nat):rpieces wire [] = []:=rfl
theorem rpieces_bad (wire:Nat) (l:List UInt8) (c:Nat) (hc:c ≠ 0) (e:(runSize wire l).2 = c):rpieces wire l = []:=by
 unfold rpieces
 cases hk:l.length with
 | zero => rfl
 | succ k =>
  have hl:l ≠ []:=by rintro rfl;simp at hk
  simp only [rpiecesGo,if_neg hl,e,if_pos hc]
theorem rpieces_step (wire:Nat) (l:List UInt8) (hl:l ≠ []) (n:Nat) (e:runSize wire l = (n,0)):rpieces wire l = l.take n :: rpieces wire (l.drop n):=by
 obtain ⟨k,hk⟩:∃ k,l.length = k + 1:=⟨l.length - 1,by have:=List.length_pos_iff.2 hl;omega⟩
 have hn:0 < n:=by
  rcases runSize_cases wire l with ⟨n',e',h3,-,h4⟩ | ⟨c,e',hc⟩
  ·
   rw [e] at e';cases e';exact h3
  ·
   rw [e] at e';cases e';omega
 have hf:=rpiecesGo_fuel wire k (l.drop n).length (l.drop n) (by simp;omega) (Nat.le_refl _)
 unfold rpieces
 rw [hk]
 simp only [rpiecesGo,if_neg hl,e,hf]
 simp
theorem rpieces_len (wire:Nat):∀ (m:Nat) (l:List UInt8),l.length ≤ m → (rpieces wire l).length ≤ l.length
 | 0,l,h => by
  obtain rfl:l = []:=List.length_eq_zero_iff.1 (by omega)
  exact Nat.le_refl _
 | m + 1,l,h => by
  by_cases hl:l = []
  ·
   subst hl;exact Nat.le_refl _
  rcases runSize_cases wire l with ⟨n,e,h3,-,h4⟩ | ⟨c,e,hc⟩
  ·
   have ih:=rpieces_len wire m (l.drop n) (by simp;omega)
   rw [rpieces_step wire l hl n e]
   simp at ih ⊢;omega
  ·
   rw [rpieces_bad wire l c (by omega) (by rw [e])];simp
theorem runCount_len (wire:Nat):∀ (m:Nat) (l:List UInt8),l.length ≤ m → (runCount wire l).1 = if (runCount wire l).2 = 0 then (rpieces wire l).length else 0
 | 0,l,h => by
  obtain rfl:l = []:=List.length_eq_zero_iff.1 (by omega)
  rfl
 | m + 1,l,h => by
  by_cases hl:l = []
  ·
   subst hl;rfl
  rcases runSize_cases wire l with ⟨n,e,h3,-,h4⟩ | ⟨c,e,hc⟩
  ·
   have ih:=runCount_len wire m (l.drop n) (by simp;omega)
   rw [runCount_step wire l hl n e,rpieces_step wire l hl n e]
   by_cases h0:(runCount wire (l.drop n)).2 = 0
   ·
    simp only [h0,ne_eq,not_true_eq_false,if_false,if_true,List.length_cons] at ih ⊢
    rw [ih]
   ·
    simp [h0]
  ·
   rw [runCount_bad wire l hl c (by omega) (by rw [e]),if_neg (show (0,c).2 ≠ 0 by show c ≠ 0;omega)]
end Go.Proofs.YtphkmpnahnakaaaGreat
namespace Go.Proofs.YtphkmpnahnakaaaGreat
def uhead (c:Nat):Nat × Nat:=
 if c < 128 then (1,c) else if 192 ≤ c ∧ c < 224 then (2,c % 32) else if 224 ≤ c ∧ c < 240 then (3,c % 16) else if 240 ≤ c ∧ c < 248 then (4,c % 8) else (0,0)
def uleast (n:Nat):Nat:=if n ≤ 1 then 0 else if n = 2 then 128 else if n = 3 then 2048 else 65536
def ucont:Nat → Nat → List UInt8 → Option Nat
 | 0,r,_ => some r
 | _ + 1,_,[] => none
 | k + 1,r,c :: t => if 128 ≤ c.toNat ∧ c.toNat < 192 then ucont k (r * 64 + c.toNat % 64) t else none
def ubad (n r:Nat):Bool:=decide (r < uleast n ∨ 1114111 < r ∨ 55296 ≤ r ∧ r ≤ 57343)
def unext (l:List UInt8):Nat:=
 match l with
 | [] => 0
 | c :: t =>
  if (uhead c.toNat).1 = 0 ∨ l.length < (uhead c.toNat).1 then 0 else
  match ucont ((uhead c.toNat).1 - 1) (uhead c.toNat).2 t with
  | none => 0
  | some r => if ubad (uhead c.toNat).1 r then 0 else (uhead c.toNat).1
theorem uhead_le (c:Nat):(uhead c).1 ≤ 4:=by
 unfold uhead
 repeat' split
 all_goals simp
theorem unext_le (l:List UInt8):unext l ≤ l.length ∧ unext l ≤ 4:=by
 unfold unext
 split
 ·
  exact ⟨Nat.le_refl _,by omega⟩
 ·
  rename_i c t
  have:=uhead_le c.toNat
  split
  ·
   exact ⟨Nat.zero_le _,by omega⟩
  ·
   split
   ·
    exact ⟨Nat.zero_le _,by omega⟩
   ·
    split
    ·
     exact ⟨Nat.zero_le _,by omega⟩
    ·
     exact ⟨by omega,this⟩
def ugo:Nat → List UInt8 → Nat
 | 0,_ => 0
 | f + 1,l => if unext l = 0 then 0 else unext l + ugo f (l.drop (unext l))
def ufirst (l:List UInt8):Nat:=ugo l.length l
theorem ugo_more:∀ (f g:Nat) (l:List UInt8),l.length ≤ f → f ≤ g → ugo g l = ugo f l
 | 0,g,l,h,_ => by
  obtain rfl:l = []:=List.eq_nil_of_length_eq_zero (by omega)
  cases g <;> simp [ugo,unext]
 | f + 1,0,l,_,h => by omega
 | f + 1,g + 1,l,h,hg => by
  simp only [ugo]
  split
  ·
   rfl
  ·
   rw [ugo_more f g _ (by rw [List.length_drop];omega) (by omega)]
theorem ufirst_step (l:List UInt8):ufirst l = if unext l = 0 then 0 else unext l + ufirst (l.drop (unext l)):=by
 unfold ufirst
 cases h:l.length with
 | zero =>
  obtain rfl:l = []:=List.eq_nil_of_length_eq_zero h
  simp [ugo,unext]
 | succ f =>
  simp only [ugo]
  split
  ·
   rfl
  ·
   rename_i hne
   have:=unext_le l
   rw [ugo_more (l.drop (unext l)).length f _ (Nat.le_refl _) (by rw [List.length_drop];omega)]
def b8 (n:Nat):UInt8:=UInt8.ofNat n
def uput (r:Nat):List UInt8:=
 if 1114111 < r ∨ 55296 ≤ r ∧ r ≤ 57343 then [] else
 if r < 128 then [b8 r] else
 if r < 2048 then [b8 (192 + r / 64),b8 (128 + r % 64)] else
 if r < 65536 then [b8 (224 + r / 4096),b8 (128 + r / 64 % 64),b8 (128 + r % 64)] else
 [b8 (240 + r / 262144),b8 (128 + r / 4096 % 64),b8 (128 + r / 64 % 64),b8 (128 + r % 64)]
def umod (n c:Nat):Nat:=if n ≤ 1 then c else if n = 2 then c % 32 else if n = 3 then c % 16 else c % 8
def ufold:Nat → List UInt8 → Nat
 | r,[] => r
 | r,c :: t => ufold (64 * r + c.toNat % 64) t
def uval (n:Nat) (l:List UInt8):Nat:=ufold (umod n (l.getD 0 0).toNat) ((l.take n).drop 1)
theorem b8_eq (n:Nat) (c:UInt8) (h:n < 256):b8 n = c ↔ n = c.toNat:=by
 constructor
 ·
  rintro rfl;simp [b8];omega
 ·
  intro e;apply UInt8.toNat_inj.1;simp [b8];omega
theorem uhead_cases (c:Nat):(c < 128 ∧ uhead c = (1,c)) ∨ (192 ≤ c ∧ c < 224 ∧ uhead c = (2,c % 32)) ∨ (224 ≤ c ∧ c < 240 ∧ uhead c = (3,c % 16)) ∨ (240 ≤ c ∧ c < 248 ∧ uhead c = (4,c % 8)) ∨
  ((128 ≤ c ∧ c < 192 ∨ 248 ≤ c) ∧ uhead c = (0,0)):=by
 unfold uhead
 by_cases h1:c < 128
 ·
  exact .inl ⟨h1,if_pos h1⟩
 ·
  rw [if_neg h1]
  by_cases h2:192 ≤ c ∧ c < 224
  ·
   exact .inr (.inl ⟨h2.1,h2.2,if_pos h2⟩)
  ·
   rw [if_neg h2]
   by_cases h3:224 ≤ c ∧ c < 240
   ·
    exact .inr (.inr (.inl ⟨h3.1,h3.2,if_pos h3⟩))
   ·
    rw [if_neg h3]
    by_cases h4:240 ≤ c ∧ c < 248
    ·
     exact .inr (.inr (.inr (.inl ⟨h4.1,h4.2,if_pos h4⟩)))
    ·
     exact .inr (.inr (.inr (.inr ⟨by omega,if_neg h4⟩)))
def cont (c:UInt8):Prop:=128 ≤ c.toNat ∧ c.toNat < 192
theorem unext1 (c:UInt8) (t:List UInt8):unext (c :: t) = 1 ↔ c.toNat < 128:=by
 have hc:=c.toNat_lt
 rcases uhead_cases c.toNat with ⟨h,e⟩ | ⟨h,h',e⟩ | ⟨h,h',e⟩ | ⟨h,h',e⟩ | ⟨h,e⟩
 ·
  simp only [unext,e]
  have hb:ubad 1 c.toNat = false:=by simp [ubad,uleast];omega
  simp [ucont,hb,h]
 all_goals
  have hne:¬ c.toNat < 128:=by omega
  simp only [hne,iff_false]
  simp only [unext,e]
  repeat' split
  all_goals omega
theorem unext2 (c d:UInt8) (t:List UInt8):unext (c :: d :: t) = 2 ↔ 192 ≤ c.toNat ∧ c.toNat < 224 ∧ cont d ∧ 128 ≤ c.toNat % 32 * 64 + d.toNat % 64:=by
 have hc:=c.toNat_lt
 rcases uhead_cases c.toNat with ⟨h,e⟩ | ⟨h,h',e⟩ | ⟨h,h',e⟩ | ⟨h,h',e⟩ | ⟨h,e⟩
 case inr.inl =>
  simp only [unext,e,ucont,cont]
  rw [if_neg (by simp)]
  by_cases hd:128 ≤ d.toNat ∧ d.toNat < 192
  ·
   simp only [hd,and_self,if_true,ubad,uleast]
   by_cases hr:128 ≤ c.toNat % 32 * 64 + d.toNat % 64
   ·
    rw [if_neg (by simp;omega)]
    simp [h,h',hr]
   ·
    rw [if_pos (by simp;omega)]
    simp [hr]
  ·
   simp [hd]
 all_goals
  have hne:¬ (192 ≤ c.toNat ∧ c.toNat < 224 ∧ cont d ∧ 128 ≤ c.toNat % 32 * 64 + d.toNat % 64):=by omega
  simp only [hne,iff_false]
  simp only [unext,e]
  repeat' split
  all_goals omega
theorem unext3 (c d f:UInt8) (t:List UInt8):unext (c :: d :: f :: t) = 3 ↔ 224 ≤ c.toNat ∧ c.toNat < 240 ∧ cont d ∧ cont f ∧
  2048 ≤ (c.toNat % 16 * 64 + d.toNat % 64) * 64 + f.toNat % 64 ∧ ¬ (55296 ≤ (c.toNat % 16 * 64 + d.toNat % 64) * 64 + f.toNat % 64 ∧ (c.toNat % 16 * 64 + d.toNat % 64) * 64 + f.toNat % 64 ≤ 57343):=by
 have hc:=c.toNat_lt
 rcases uhead_cases c.toNat with ⟨h,e⟩ | ⟨h,h',e⟩ | ⟨h,h',e⟩ | ⟨h,h',e⟩ | ⟨h,e⟩
 case inr.inr.inl =>
  simp only [unext,e,ucont,cont]
  rw [if_neg (by simp)]
  by_cases hd:128 ≤ d.toNat ∧ d.toNat < 192
  ·
   by_cases hf:128 ≤ f.toNat ∧ f.toNat < 192
   ·
    simp only [hd,hf,and_self,if_true,ubad,uleast,true_and,h,h']
    by_cases hr:2048 ≤ (c.toNat % 16 * 64 + d.toNat % 64) * 64 + f.toNat % 64 ∧ ¬ (55296 ≤ (c.toNat % 16 * 64 + d.toNat % 64) * 64 + f.toNat % 64 ∧ (c.toNat % 16 * 64 + d.toNat % 64) * 64 + f.toNat % 64 ≤ 57343)
    ·
     rw [if_neg (by simp;omega)]
     simp only [hr,not_false_eq_true,and_self]
    ·
     rw [if_pos (by simp;omega)]
     simp only [hr,iff_false];omega
   ·
    simp [hd,hf]
  ·
   simp [hd]
 all_goals
  simp only [unext,e]
  repeat' split
  all_goals omega
theorem ubad4 (r:Nat):ubad 4 r = decide (r < 65536 ∨ 1114111 < r):=by
 have e:uleast 4 = 65536:=rfl
 unfold ubad
 rw [e]
 congr 1
 apply propext
 omega
theorem unext4 (c d f g:UInt8) (t:List UInt8):unext (c :: d :: f :: g :: t) = 4 ↔ 240 ≤ c.toNat ∧ c.toNat < 248 ∧ cont d ∧ cont f ∧ cont g ∧
  65536 ≤ ((c.toNat % 8 * 64 + d.toNat % 64) * 64 + f.toNat % 64) * 64 + g.toNat % 64 ∧ ((c.toNat % 8 * 64 + d.toNat % 64) * 64 + f.toNat % 64) * 64 + g.toNat % 64 ≤ 1114111:=by
 have hc:=c.toNat_lt
 rcases uhead_cases c.toNat with ⟨h,e⟩ | ⟨h,h',e⟩ | ⟨h,h',e⟩ | ⟨h,h',e⟩ | ⟨h,e⟩
 case inr.inr.inr.inl =>
  simp only [unext,e,ucont,cont]
  rw [if_neg (by simp)]
  by_cases hd:128 ≤ d.toNat ∧ d.toNat < 192
  ·
   by_cases hf:128 ≤ f.toNat ∧ f.toNat < 192
   ·
    by_cases hg:128 ≤ g.toNat ∧ g.toNat < 192
    ·
     simp only [hd,hf,hg,and_self,if_true,ubad4,true_and,h,h']
     by_cases hr:65536 ≤ ((c.toNat % 8 * 64 + d.toNat % 64) * 64 + f.toNat % 64) * 64 + g.toNat % 64 ∧ ((c.toNat % 8 * 64 + d.toNat % 64) * 64 + f.toNat % 64) * 64 + g.toNat % 64 ≤ 1114111
     ·
      rw [if_neg (by simp;omega)]
      simp only [hr,and_self]
     ·
      rw [if_pos (by simp;omega)]
      simp only [hr,iff_false];omega
    ·
     simp [hd,hf,hg]
   ·
    simp [hd,hf]
  ·
   simp [hd]
 all_goals
  simp only [unext,e]
  repeat' split
  all_goals omega
theorem uput_len (r:Nat):(uput r).length = if 1114111 < r ∨ 55296 ≤ r ∧ r ≤ 57343 then 0 else if r < 128 then 1 else if r < 2048 then 2 else if r < 65536 then 3 else 4:=by
 unfold uput
 repeat' split
 all_goals simp
theorem uput_take (l:List UInt8) (n:Nat) (h1:1 ≤ n) (h4:n ≤ 4) (hl:n ≤ l.length):uput (uval n l) = l.take n ↔ unext l = n:=by
 rcases (show n = 1 ∨ n = 2 ∨ n = 3 ∨ n = 4 by omega) with rfl | rfl | rfl | rfl
 ·
  match l,hl with
  | c :: t,_ =>
   have hc:=c.toNat_lt
   rw [unext1]
   have e:uval 1 (c :: t) = c.toNat:=by simp [uval,ufold,umod]
   rw [e]
   by_cases h:c.toNat < 128
   ·
    simp only [h,iff_true,uput]
    rw [if_neg (by omega),if_pos trivial]
    have:b8 c.toNat = c:=(b8_eq _ _ (by omega)).2 rfl
    simp [this]
   ·
    simp only [h,iff_false]
    intro e
    have:=congrArg List.length e
    rw [uput_len,if_neg (by omega),if_neg (by omega),if_pos (by omega)] at this
    simp at this
 ·
  match l,hl with
  | c :: d :: t,_ =>
   have hc:=c.toNat_lt
   have hd:=d.toNat_lt
   rw [unext2]
   have e:uval 2 (c :: d :: t) = c.toNat % 32 * 64 + d.toNat % 64:=by simp [uval,ufold,umod];omega
   rw [e]
   generalize hr:c.toNat % 32 * 64 + d.toNat % 64 = r
   unfold cont
   by_cases h:128 ≤ r
   ·
    unfold uput
    rw [if_neg (by omega),if_neg (by omega),if_pos (by omega)]
    simp only [List.take_succ_cons,List.take_zero,List.cons.injEq,and_true]
    rw [b8_eq _ _ (by omega),b8_eq _ _ (by omega)]
    omega
   ·
    have hne:¬ (192 ≤ c.toNat ∧ c.toNat < 224 ∧ (128 ≤ d.toNat ∧ d.toNat < 192) ∧ 128 ≤ r):=by omega
    simp only [hne,iff_false]
    intro e
    have:=congrArg List.length e
    rw [uput_len,if_neg (by omega),if_pos (by omega)] at this
    simp at this
 ·
  match l,hl with
  | c :: d :: f :: t,_ =>
   have hc:=c.toNat_lt
   have hd:=d.toNat_lt
   have hf:=f.toNat_lt
   rw [unext3]
   have e:uval 3 (c :: d :: f :: t) = (c.toNat % 16 * 64 + d.toNat % 64) * 64 + f.toNat % 64:=by simp [uval,ufold,umod];omega
   rw [e]
   generalize hr:(c.toNat % 16 * 64 + d.toNat % 64) * 64 + f.toNat % 64 = r
   unfold cont
   by_cases h:2048 ≤ r ∧ ¬ (55296 ≤ r ∧ r ≤ 57343)
   ·
    unfold uput
    rw [if_neg (by omega),if_neg (by omega),if_neg (by omega),if_pos (by omega)]
    simp only [List.take_succ_cons,List.take_zero,List.cons.injEq,and_true]
    rw [b8_eq _ _ (by omega),b8_eq _ _ (by omega),b8_eq _ _ (by omega)]
    omega
   ·
    constructor
    ·
     intro e
     have:=congrArg List.length e
     rw [uput_len] at this
     simp only [List.length_take,List.length_cons] at this
     repeat' split at this
     all_goals omega
    ·
     omega
 ·
  match l,hl with
  | c :: d :: f :: g :: t,_ =>
   have hc:=c.toNat_lt
   have hd:=d.toNat_lt
   have hf:=f.toNat_lt
   have hg:=g.toNat_lt
   rw [unext4]
   have e:uval 4 (c :: d :: f :: g :: t) = ((c.toNat % 8 * 64 + d.toNat % 64) * 64 + f.toNat % 64) * 64 + g.toNat % 64:=by simp [uval,ufold,umod];omega
   rw [e]
   generalize hr:((c.toNat % 8 * 64 + d.toNat % 64) * 64 + f.toNat % 64) * 64 + g.toNat % 64 = r
   unfold cont
   by_cases h:65536 ≤ r ∧ r ≤ 1114111
   ·
    unfold uput
    rw [if_neg (by omega),if_neg (by omega),if_neg (by omega),if_neg (by omega)]
    simp only [List.take_succ_cons,List.take_zero,List.cons.injEq,and_true]
    rw [b8_eq _ _ (by omega),b8_eq _ _ (by omega),b8_eq _ _ (by omega),b8_eq _ _ (by omega)]
    omega
   ·
    constructor
    ·
     intro e
     have:=congrArg List.length e
     rw [uput_len] at this
     simp only [List.length_take,List.length_cons] at this
     repeat' split at this
     all_goals omega
    ·
     omega
end Go.Proofs.YtphkmpnahnakaaaGreat
