/- Parts of a proof: texts of the author, merged. No condition of their own. -/
import Derived.Test.YtpckoeicbjfnhaaGreatDoorY01
import Derived.Test.YtpckoeicbjfnhaaGreatDoorY02
import Derived.Test.YtpckoeicbjfnhaaGreatDoorY06
import Derived.Maps.AppendAt
import Derived.RangeFuncFrom
import Derived.Deep.RegionWith
import Derived.Deep.RegionHeld3
namespace Go.Proofs.YtpckoeicbjfnhaaGreatDoor
set_option maxRecDepth 100000
set_option maxHeartbeats 16000000
section
open Go.RowKit
def Blk (w:World)(b:Nat)(cs:List Value)(T:TypeId):Prop:=w.heap[b]?=some (.cells cs.toArray T (0,0))
theorem Blk.cell {w:World}{b:Nat}{cs:List Value}{T:TypeId}(h:Blk w b cs T)(j:Nat)(u:Value)(hu:cs[j]?=some u):w.cell? ⟨b,j,none⟩=some u:=by
 rw[cell_of_row _ _ _ _ T (0,0) h];simpa using hu
theorem Blk.free {w:World}{b:Nat}{cs:List Value}{T:TypeId}(h:Blk w b cs T)(j:Nat):w.frozen? ⟨b,j,none⟩=false:=by
 unfold Blk at h
 simp[World.frozen?,h]
theorem Blk.lt {w:World}{b:Nat}{cs:List Value}{T:TypeId}(h:Blk w b cs T):b<w.heap.size:=by
 unfold Blk at h
 rw[Array.getElem?_eq_some_iff] at h
 exact h.1
theorem Blk.below {w w':World}{b:Nat}{cs:List Value}{T:TypeId}(h:Blk w b cs T)(hb:Below w.heap.size w w'):Blk w' b cs T:=(hb.block b h.lt).trans h
theorem Blk.alloc {w:World}{b:Nat}{cs:List Value}{T:TypeId}(h:Blk w b cs T)(o:Obj):Blk (w.alloc o) b cs T:=(Below.heap_alloc w o b h.lt).trans h
theorem Blk.new (w:World)(cs:List Value)(T:TypeId):Blk (w.alloc (.cells cs.toArray T)) w.heap.size cs T:=heap_alloc_new w _
theorem Blk.set_other {w:World}{b:Nat}{cs:List Value}{T:TypeId}(h:Blk w b cs T)(a:Addr)(v:Value)(hne:b≠a.block):Blk (w.setCell a v) b cs T:=(Below.heap_setCell w a v b hne).trans h
theorem Blk.set {w:World}{b:Nat}{cs:List Value}{T:TypeId}(h:Blk w b cs T)(j:Nat)(v:Value):Blk (w.setCell ⟨b,j,none⟩ v) b (cs.set j v) T:=by
 unfold Blk at *
 obtain⟨hlt,hk⟩:=Array.getElem?_eq_some_iff.1 h
 show (w.heap.modify b _)[b]?=_
 rw[Array.getElem?_eq_getElem (by rw[Array.size_modify];exact hlt),Array.getElem_modify_self,hk]
 simp
theorem zju (w:World)(a:Addr)(v:Value)(q j:Nat)(hne:q≠a.block):(w.setCell a v).cell? ⟨q,j,none⟩=w.cell? ⟨q,j,none⟩:=World.cell?_of_block (Below.heap_setCell w a v q hne)
theorem zqD (w:World)(p q j:Nat)(hne:q≠p)(v0 v1 v2 v3 v4 v5 v6:Value) :
  (((((((w.setCell ⟨p,0,none⟩ v0).setCell ⟨p,1,none⟩ v1).setCell ⟨p,2,none⟩ v2).setCell ⟨p,3,none⟩ v3).setCell ⟨p,4,none⟩ v4).setCell ⟨p,5,none⟩ v5).setCell ⟨p,6,none⟩ v6).cell? ⟨q,j,none⟩=w.cell? ⟨q,j,none⟩:=by
 repeat rw[zju _ _ _ _ _ hne]
theorem Blk.new' (w:World)(cs:List Value)(T:TypeId)(n:Nat)(h:n=w.heap.size):Blk (w.alloc (.cells cs.toArray T)) n cs T:=by subst h;exact Blk.new w cs T
theorem zaL {w w':World}{base size n:Nat}{e:TypeId}{v:Value}{xs:List Value}(h:w.ownsRow base e size v n xs)
  (hk:∀ b cur,base≤b→w.heap[b]?=some (.cells cur e (0,0))→w'.heap[b]?=w.heap[b]?):w'.ownsRow base e size v n xs:=by
 refine⟨h.1,?_⟩
 rcases h.2 with h2|⟨g,cap,cur,hv,hb,hg,hnc,hcm,hcs,ht⟩
 ·
  exact .inl h2
 ·
  exact .inr ⟨g,cap,cur,hv,hb,(hk g cur hb hg).trans hg,hnc,hcm,hcs,ht⟩
theorem Blk.grown {w w':World}{b r:Nat}{cs:List Value}{T:TypeId}(h:Blk w b cs T)(hg:w.grownBy w' (some r))(hne:b≠r):Blk w' b cs T:=
 (hg.block b h.lt (fun e=>hne (Option.some.inj e))).trans h
theorem zbq {w w1 w2:World}{r:Nat}(h:w.grownBy w1 (some r))(hg:w1.grownBy w2 (some r)):w.grownBy w2 (some r):=
 ⟨hg.os.trans h.os,hg.tape.trans h.tape,hg.output.trans h.output,Nat.le_trans h.size hg.size,fun k hk hr=>(hg.block k (Nat.lt_of_lt_of_le hk h.size) hr).trans (h.block k hk hr)⟩
theorem Blk.put {W:World}{b r:Nat}{cs:List Value}{T:TypeId}(h:Blk W b cs T)(o:Obj)(hne:b≠r):Blk (W.putObj r o) b cs T:=
 (World.putObj_heap_other hne).trans h
theorem zlY {H:Nat}(W:World)(l:Nat)(o:Obj)(h:H≤l):Below H W (W.putObj l o):=
 ⟨rfl,rfl,rfl,by simp[World.putObj],fun b hb=>World.putObj_heap_other (by omega)⟩
theorem zfX {w W:World}{H B0 B1 BD:Nat}{u0 u1:Value}{T0 T1:TypeId}(r0:Blk W B0 [u0] T0)(r1:Blk W B1 [u1] T1)(hD:W.heap[BD]?=some (.deferred (some [])))
  (h01:B0≠B1) (h0:H≤B0) (h1:H≤B1) (hHD:H≤BD) (hB:Below H w W) (x y:Value) :
  ((W.setCell ⟨B0,0,none⟩ x).setCell ⟨B1,0,none⟩ y).heap[BD]?=some (.deferred (some [])) ∧
  (((W.setCell ⟨B0,0,none⟩ x).setCell ⟨B1,0,none⟩ y).putObj BD (.deferred none)).cell? ⟨B0,0,none⟩=some x ∧
  (((W.setCell ⟨B0,0,none⟩ x).setCell ⟨B1,0,none⟩ y).putObj BD (.deferred none)).cell? ⟨B1,0,none⟩=some y ∧
  Below H w (((W.setCell ⟨B0,0,none⟩ x).setCell ⟨B1,0,none⟩ y).putObj BD (.deferred none)):=by
 have n0:BD≠B0:=by rintro rfl;unfold Blk at r0;rw[r0] at hD;cases hD
 have n1:BD≠B1:=by rintro rfl;unfold Blk at r1;rw[r1] at hD;cases hD
 have d1:(W.setCell ⟨B0,0,none⟩ x).heap[BD]?=some (.deferred (some [])):=(Below.heap_setCell W _ _ _ n0).trans hD
 have d2:((W.setCell ⟨B0,0,none⟩ x).setCell ⟨B1,0,none⟩ y).heap[BD]?=some (.deferred (some [])):=(Below.heap_setCell _ _ _ _ n1).trans d1
 have s0:Blk (W.setCell ⟨B0,0,none⟩ x) B0 [x] T0:=r0.set 0 x
 have s1:Blk (W.setCell ⟨B0,0,none⟩ x) B1 [u1] T1:=r1.set_other _ _ (Ne.symm h01)
 have t0:Blk ((W.setCell ⟨B0,0,none⟩ x).setCell ⟨B1,0,none⟩ y) B0 [x] T0:=s0.set_other _ _ h01
 have t1:Blk ((W.setCell ⟨B0,0,none⟩ x).setCell ⟨B1,0,none⟩ y) B1 [y] T1:=s1.set 0 y
 refine⟨d2,(t0.put _ (Ne.symm n0)).cell 0 _ rfl,(t1.put _ (Ne.symm n1)).cell 0 _ rfl,?_⟩
 have b2:Below H w ((W.setCell ⟨B0,0,none⟩ x).setCell ⟨B1,0,none⟩ y):=(hB.setCell h0 _).setCell h1 _
 exact b2.trans (zlY _ _ _ hHD)
theorem zeW {w W:World}{H B0 B1 BD:Nat}{u0 u1:Value}{T0 T1:TypeId}(r0:Blk W B0 [u0] T0)(r1:Blk W B1 [u1] T1)(hD:W.heap[BD]?=some (.deferred (some [])))
  (hHD:H≤BD) (hB:Below H w W) :
  (W.putObj BD (.deferred none)).cell? ⟨B0,0,none⟩=some u0∧(W.putObj BD (.deferred none)).cell? ⟨B1,0,none⟩=some u1∧Below H w (W.putObj BD (.deferred none)):=by
 have n0:BD≠B0:=by rintro rfl;unfold Blk at r0;rw[r0] at hD;cases hD
 have n1:BD≠B1:=by rintro rfl;unfold Blk at r1;rw[r1] at hD;cases hD
 exact⟨(r0.put _ (Ne.symm n0)).cell 0 _ rfl,(r1.put _ (Ne.symm n1)).cell 0 _ rfl,hB.trans (zlY _ _ _ hHD)⟩
theorem zcA {w:World}{g:Nat}{cs:List Value}{T:TypeId}(h:Blk w g cs T)(size n:Nat)(hl:cs.length=n*size)(hn:n≤140737488355328):Seg w (.slice (some ⟨g,0,none⟩) n n) size n cs:=
 ⟨hl,hn,_,_,rfl,Nat.le_refl _,by omega,by simp,fun j u hu=>⟨g,0,rfl,by rw[Nat.zero_add];exact h.cell j u hu⟩⟩
end
section
open Go.RowKit
def zao (fs:List Fld)(l:List UInt8)(i:Nat):Rec × Int × Bool × Nat:=
 if (zaJ l i).2≠0 then (.none,0,false,(zaJ l i).2) else
 if zae fs (zaJ l i).1.number<0 then ((zaJ l i).1,-1,false,0) else
 let f:=fs.getD (zae fs (zaJ l i).1.number).toNat .zero
 if (f.rep&&zac f.kind&&decide ((zaJ l i).1.wire=2))=true then ((zaJ l i).1,zae fs (zaJ l i).1.number,true,0) else
 if zaM f.kind=false∨zas f.kind≠(zaJ l i).1.wire then (.none,0,false,6) else ((zaJ l i).1,zae fs (zaJ l i).1.number,false,0)
def zqt (r:Rec):List Value:=[.int .i64 r.number,.int .i64 r.wire,.int .i64 r.start,.int .i64 r.at',.int .i64 r.to]
def zdh (r:Rec)(k:Int)(run:Bool):List Value:=[.int .i64 r.number,.int .i64 r.wire,.int .i64 r.start,.int .i64 r.at',.int .i64 r.to,.int .i64 k,.bool run]
def zc4 (r:Rec)(k:Int)(run:Bool):Value:=.agg #[.int .i64 r.number,.int .i64 r.wire,.int .i64 r.start,.int .i64 r.at',.int .i64 r.to,.int .i64 k,.bool run]
theorem zii {w:World}{v vf:Value}{l:List UInt8}{fs:List Fld}(h:zal w v l)(hf:zaK w vf fs)(nm:ByteArray)(i:Nat)(hi63:i≤9223372036854775807) :
  Calls Tryz.prog 175 #[.agg #[.string nm,vf],v,.int .i64 i] w fun e w'=>e= .returned (.tuple #[zc4 (zao fs l i).1 (zao fs l i).2.1 (zao fs l i).2.2.1,.int .u8 (zao fs l i).2.2.2])∧Below w.heap.size w w':=by
 obtain⟨hflen,fa,fcap,rfl,hfat⟩:=hf.open
 obtain⟨fl,HFL⟩:∃ fl,Hid (fl=fs.length):=⟨_,rfl⟩
 have HF:=hid hf
 rw[←HFL.out] at hflen hfat ⊢
 have HFAT:=hid hfat
 clear hfat hf
 obtain⟨x,HX⟩:∃ x,Hid (x=zao fs l i):=⟨_,rfl⟩
 rw[←HX.out]
 unfold zao at HX
 obtain⟨r,c,HR⟩:∃ r c,Hid (zaJ l i=(r,c)):=⟨_,_,rfl⟩
 rw[HR.out] at HX
 simp only at HX
 go_enter Tryz.func175,Tryz.ntmps175
 go_wp2_with fail
 refine (zid (h.keep (w':=(w.alloc _).alloc _) (zaa (Below.alloc ((Below.refl _ _).alloc (Nat.le_refl _) _) (by simp) _))) i hi63).mono ?_
 rintro e w1 ⟨rfl,hb⟩
 rw[HR.out]
 have hB0:Blk w1 w.heap.size [.string nm,.slice fa fl fcap] 76:=((Blk.new w _ _).alloc _).below hb
 have hB1:Blk w1 (w.heap.size+1) (zdh .none 0 false) 212:=by
  refine Blk.below ?_ hb
  have:=Blk.new (w.alloc (.cells #[.string nm,.slice fa fl fcap] 76)) (zdh .none 0 false) 212
  rw[show (w.alloc (.cells #[.string nm,.slice fa fl fcap] 76)).heap.size=w.heap.size+1 by simp] at this
  exact this
 have hb1:Below w.heap.size w w1:=zag (Below.alloc ((Below.refl _ _).alloc (Nat.le_refl _) _) (by simp) _) hb (by simp;omega)
 have H0:=hid hB0
 have H1:=hid hB1
 have HB1:=hid hb1
 clear hB0 hB1 hb1
 obtain⟨B1,HBB⟩:∃ B1,Hid (B1=w.heap.size+1):=⟨_,rfl⟩
 obtain⟨B0,HBA⟩:∃ B0,Hid (B0=w.heap.size):=⟨_,rfl⟩
 rw[←HBB.out] at H1 ⊢
 rw[←HBA.out] at H0 ⊢
 have hwB1:w.heap.size≤B1:=by rw[HBB.out];omega
 have hws:w.heap.size≤w1.heap.size:=HB1.out.size
 by_cases hc:c=0
 ·
  subst hc
  have HX0:Hid (x=if zae fs r.number<0 then (r,-1,false,0) else
   if ((fs.getD (zae fs r.number).toNat .zero).rep&&zac (fs.getD (zae fs r.number).toNat .zero).kind&&decide (r.wire=2))=true then (r,zae fs r.number,true,0) else
   if zaM (fs.getD (zae fs r.number).toNat .zero).kind=false∨zas (fs.getD (zae fs r.number).toNat .zero).kind≠r.wire then (.none,0,false,6) else (r,zae fs r.number,false,0)):=by
   rw[Hid,HX.out,if_neg (by decide)]
  obtain⟨r1,r2,r3,r4,r5⟩:=r
  unfold Rec.val
  simp only
  have m0:=H0.out.cell 0 _ rfl
  have m1:=H0.out.cell 1 _ rfl
  have mlt:=H0.out.lt
  go_wp2
  obtain⟨W4,HW4⟩:∃ W4,Hid (W4=w1.alloc (.cells #[.int .i64 r1,.int .i64 r2,.int .i64 r3,.int .i64 r4,.int .i64 r5] 210)):=⟨_,rfl⟩
  rw[←HW4.out]
  obtain⟨q,HQ⟩:∃ q,Hid (q=w1.heap.size):=⟨_,rfl⟩
  rw[←HQ.out]
  have HF4:Hid (Blk W4 q (zqt ⟨r1,r2,r3,r4,r5⟩) 210∧Blk W4 B0 [.string nm,.slice fa fl fcap] 76∧Blk W4 B1 (zdh .none 0 false) 212∧Below w.heap.size w W4):=by
   rw[HW4.out]
   exact⟨by rw[HQ.out];exact Blk.new w1 (zqt ⟨r1,r2,r3,r4,r5⟩) _,H0.out.alloc _,H1.out.alloc _,HB1.out.alloc hws _⟩
  clear m0 m1 mlt
  obtain⟨k,HKE⟩:∃ k,Hid (k=zae fs r1):=⟨_,rfl⟩
  go_cut [10] (fun s10 wx=>∃ p:Nat,s10= .pointer (some ⟨p,0,none⟩)∧B1<p∧Hid (Blk wx p (zdh ⟨r1,r2,r3,r4,r5⟩ (zae fs r1) false) 212∧Blk wx q (zqt ⟨r1,r2,r3,r4,r5⟩) 210∧Blk wx B0 [.string nm,.slice fa fl fcap] 76∧Blk wx B1 (zdh .none 0 false) 212∧Below w.heap.size w wx))
  case first =>
   have F1:zaK (W4.alloc (.cells #[.int .i64 0,.int .i64 0,.int .i64 0,.int .i64 0,.int .i64 0,.int .i64 0,.bool false] 212)).drew (.slice fa fl fcap) fs:=by
    have:=HF.out.keep (zaa (HF4.out.2.2.2.alloc HF4.out.2.2.2.size (.cells #[.int .i64 0,.int .i64 0,.int .i64 0,.int .i64 0,.int .i64 0,.int .i64 0,.bool false] 212)))
    rw[←HFL.out] at this
    exact this.keep fun _ _ hu=>hu
   have HNB:Hid (Blk (W4.alloc (.cells #[.int .i64 0,.int .i64 0,.int .i64 0,.int .i64 0,.int .i64 0,.int .i64 0,.bool false] 212)).drew W4.heap.size (zdh .none 0 false) 212∧Blk (W4.alloc (.cells #[.int .i64 0,.int .i64 0,.int .i64 0,.int .i64 0,.int .i64 0,.int .i64 0,.bool false] 212)).drew q (zqt ⟨r1,r2,r3,r4,r5⟩) 210∧Blk (W4.alloc (.cells #[.int .i64 0,.int .i64 0,.int .i64 0,.int .i64 0,.int .i64 0,.int .i64 0,.bool false] 212)).drew B0 [.string nm,.slice fa fl fcap] 76∧Blk (W4.alloc (.cells #[.int .i64 0,.int .i64 0,.int .i64 0,.int .i64 0,.int .i64 0,.int .i64 0,.bool false] 212)).drew B1 (zdh .none 0 false) 212∧Below w.heap.size w (W4.alloc (.cells #[.int .i64 0,.int .i64 0,.int .i64 0,.int .i64 0,.int .i64 0,.int .i64 0,.bool false] 212)).drew):=
    ⟨Blk.new W4 _ _,HF4.out.1.alloc _,HF4.out.2.1.alloc _,HF4.out.2.2.1.alloc _,(HF4.out.2.2.2.alloc HF4.out.2.2.2.size _).drew⟩
   have HF1:=hid F1
   clear F1
   have F2:zaK W4.drew (.slice fa fl fcap) fs:=by
    have:=HF.out.keep (zaa HF4.out.2.2.2)
    rw[←HFL.out] at this
    exact this.keep fun _ _ hu=>hu
   have HF2:=hid F2
   clear F2
   have HND:Hid (Blk W4.drew q (zqt ⟨r1,r2,r3,r4,r5⟩) 210∧Blk W4.drew B0 [.string nm,.slice fa fl fcap] 76∧Blk W4.drew B1 (zdh .none 0 false) 212∧Below w.heap.size w W4.drew):=
    ⟨HF4.out.1,HF4.out.2.1,HF4.out.2.2.1,HF4.out.2.2.2.drew⟩
   have q0:=HF4.out.1.cell 0 _ rfl
   have q1:=HF4.out.1.cell 1 _ rfl
   have q2:=HF4.out.1.cell 2 _ rfl
   have q3:=HF4.out.1.cell 3 _ rfl
   have q4:=HF4.out.1.cell 4 _ rfl
   have m0:=HF4.out.2.1.cell 0 _ rfl
   have m1:=HF4.out.2.1.cell 1 _ rfl
   have ql:=HF4.out.1.lt
   have m0l:=HF4.out.2.1.lt
   go_region_held3 (fun w'=>w'.cell? ⟨q,0,none⟩=some (.int .i64 r1)∧w'.cell? ⟨q,1,none⟩=some (.int .i64 r2)∧w'.cell? ⟨q,2,none⟩=some (.int .i64 r3)∧w'.cell? ⟨q,3,none⟩=some (.int .i64 r4)∧w'.cell? ⟨q,4,none⟩=some (.int .i64 r5)∧w'.cell? ⟨B0,0,none⟩=some (.string nm)∧w'.cell? ⟨B0,1,none⟩=some (.slice fa fl fcap)) (first|(with_reducible exact⟨q0',q1',q2',q3',q4',m0',m1'⟩)|(with_reducible exact⟨q0,q1,q2,q3,q4,m0,m1⟩)|go_keep|(refine⟨?_,?_,?_,?_,?_,?_,?_⟩ <;> (rw[zqD _ _ _ _ (by omega)];assumption))) (first|(go_at_call 215;(with_reducible refine (zjR HF1.out nm _).mono ?_);rintro e w5 ⟨rfl,hb5⟩;have HN5:=hid (show Blk w5 W4.heap.size (zdh .none 0 false) 212∧Blk w5 q (zqt ⟨r1,r2,r3,r4,r5⟩) 210∧Blk w5 B0 [.string nm,.slice fa fl fcap] 76∧Blk w5 B1 (zdh .none 0 false) 212∧Below w.heap.size w w5 from ⟨HNB.out.1.below hb5,HNB.out.2.1.below hb5,HNB.out.2.2.1.below hb5,HNB.out.2.2.2.1.below hb5,zag HNB.out.2.2.2.2 hb5 HNB.out.2.2.2.2.size⟩);have q0':=HN5.out.2.1.cell 0 _ rfl;have q1':=HN5.out.2.1.cell 1 _ rfl;have q2':=HN5.out.2.1.cell 2 _ rfl;have q3':=HN5.out.2.1.cell 3 _ rfl;have q4':=HN5.out.2.1.cell 4 _ rfl;have m0':=HN5.out.2.2.1.cell 0 _ rfl;have m1':=HN5.out.2.2.1.cell 1 _ rfl;have p0:=HN5.out.1.cell 0 _ rfl;have p1:=HN5.out.1.cell 1 _ rfl;have p2:=HN5.out.1.cell 2 _ rfl;have p3:=HN5.out.1.cell 3 _ rfl;have p4:=HN5.out.1.cell 4 _ rfl;have p5:=HN5.out.1.cell 5 _ rfl;have p6:=HN5.out.1.cell 6 _ rfl;have pz:=HN5.out.1.free;have pl:=HN5.out.1.lt)|(go_at_call 215;(with_reducible refine (zjR HF2.out nm _).mono ?_);rintro e w5 ⟨rfl,hb5⟩;have HN6:=hid (show Blk w5 q (zqt ⟨r1,r2,r3,r4,r5⟩) 210∧Blk w5 B0 [.string nm,.slice fa fl fcap] 76∧Blk w5 B1 (zdh .none 0 false) 212∧Below w.heap.size w w5 from ⟨HND.out.1.below hb5,HND.out.2.1.below hb5,HND.out.2.2.1.below hb5,zag HND.out.2.2.2 hb5 HND.out.2.2.2.size⟩);have q0':=HN6.out.1.cell 0 _ rfl;have q1':=HN6.out.1.cell 1 _ rfl;have q2':=HN6.out.1.cell 2 _ rfl;have q3':=HN6.out.1.cell 3 _ rfl;have q4':=HN6.out.1.cell 4 _ rfl;have m0':=HN6.out.2.1.cell 0 _ rfl;have m1':=HN6.out.2.1.cell 1 _ rfl;have ql':=HN6.out.1.lt;have m0l':=HN6.out.2.1.lt))
   ·
    go_wp2_with fail
    go_meet
    case rel=>exact⟨_,rfl,HN6.out.2.2.1.lt,Blk.new w5 (zdh ⟨r1,r2,r3,r4,r5⟩ (zae fs r1) false) _,HN6.out.1.alloc _,HN6.out.2.1.alloc _,HN6.out.2.2.1.alloc _,HN6.out.2.2.2.alloc HN6.out.2.2.2.size _⟩
   ·
    go_wp2_with fail
    go_meet
    case rel =>
     have hq:q≠W4.heap.size:=by omega
     have hm:B0≠W4.heap.size:=by omega
     have hb:B1≠W4.heap.size:=by have:=HF4.out.2.2.1.lt;omega
     refine⟨_,rfl,HF4.out.2.2.1.lt,?_,?_,?_,?_,?_⟩
     ·
      exact ((((((HN5.out.1.set 0 _).set 1 _).set 2 _).set 3 _).set 4 _).set 5 _).set 6 _
     ·
      exact ((((((HN5.out.2.1.set_other _ _ hq).set_other _ _ hq).set_other _ _ hq).set_other _ _ hq).set_other _ _ hq).set_other _ _ hq).set_other _ _ hq
     ·
      exact ((((((HN5.out.2.2.1.set_other _ _ hm).set_other _ _ hm).set_other _ _ hm).set_other _ _ hm).set_other _ _ hm).set_other _ _ hm).set_other _ _ hm
     ·
      exact ((((((HN5.out.2.2.2.1.set_other _ _ hb).set_other _ _ hb).set_other _ _ hb).set_other _ _ hb).set_other _ _ hb).set_other _ _ hb).set_other _ _ hb
     ·
      have hs:w.heap.size≤W4.heap.size:=HF4.out.2.2.2.size
      (with_reducible repeat first|exact Below.refl _ _|refine pzA ?_ _|refine pzB ?_ _|refine zab ?_ _|refine Below.drew ?_)
      exact HN5.out.2.2.2.2
  case rest =>
   obtain⟨p,rfl,hB1p,HR4⟩:=hcut
   rw[←HKE.out] at HR4
   have HX2:=HX0.out
   rw[←HKE.out] at HX2
   have HX3:=hid HX2
   clear HX2
   have p0:=HR4.out.1.cell 0 _ rfl
   have p1:=HR4.out.1.cell 1 _ rfl
   have p2:=HR4.out.1.cell 2 _ rfl
   have p3:=HR4.out.1.cell 3 _ rfl
   have p4:=HR4.out.1.cell 4 _ rfl
   have p5:=HR4.out.1.cell 5 _ rfl
   have p6:=HR4.out.1.cell 6 _ rfl
   have pz:=HR4.out.1.free
   have pl:=HR4.out.1.lt
   have q0:=HR4.out.2.1.cell 0 _ rfl
   have q1:=HR4.out.2.1.cell 1 _ rfl
   have m0:=HR4.out.2.2.1.cell 0 _ rfl
   have m1:=HR4.out.2.2.1.cell 1 _ rfl
   have b0:=HR4.out.2.2.2.1.cell 0 _ rfl
   have b1:=HR4.out.2.2.2.1.cell 1 _ rfl
   have b2:=HR4.out.2.2.2.1.cell 2 _ rfl
   have b3:=HR4.out.2.2.2.1.cell 3 _ rfl
   have b4:=HR4.out.2.2.2.1.cell 4 _ rfl
   have b5:=HR4.out.2.2.2.1.cell 5 _ rfl
   have b6:=HR4.out.2.2.2.1.cell 6 _ rfl
   have bz:=HR4.out.2.2.2.1.free
   have blt:=HR4.out.2.2.2.1.lt
   by_cases hk:k<0
   ·
    obtain rfl:k= -1:=by
     rcases zd8 (fun f:Fld=>decide (f.number=(r1:Int))) fs 0 with e|⟨j,e,h1,h2⟩
     ·
      rw[HKE.out];exact e
     ·
      have:k=j:=by rw[HKE.out];exact e
      omega
    obtain rfl:x=(⟨r1,r2,r3,r4,r5⟩,-1,false,0):=by rw[HX3.out,if_pos (by omega)]
    go_wp2
    refine bodyPost_ret (v:=.tuple #[zc4 ⟨r1,r2,r3,r4,r5⟩ (-1) false,.int .u8 0]) ?_ rfl ⟨rfl,?_⟩
    ·
     simp[results,Tryz.results175,go_sem,zc4,b0,b1,b2,b3,b4,b5,b6]
    ·
     (with_reducible repeat first|exact Below.refl _ _|refine pzA ?_ _|refine pzB ?_ _|refine zab ?_ _|refine Below.drew ?_)
     exact HR4.out.2.2.2.2
   ·
    obtain⟨K,HKK,hKl⟩:∃ K:Nat,Hid (k=K)∧K<fl:=by
     rcases zd8 (fun f:Fld=>decide (f.number=(r1:Int))) fs 0 with e|⟨j,e,h1,h2⟩
     ·
      have:k= -1:=by rw[HKE.out];exact e
      omega
     ·
      exact⟨j,by rw[Hid,HKE.out];exact e,by rw[HFL.out];omega⟩
    rw[HKK.out] at HX3 p5 HR4
    clear hk
    have HX4:Hid (x=if ((fs.getD K .zero).rep&&zac (fs.getD K .zero).kind&&decide (r2=2))=true then (⟨r1,r2,r3,r4,r5⟩,(K:Int),true,0) else
     if zaM (fs.getD K .zero).kind=false∨zas (fs.getD K .zero).kind≠r2 then (.none,0,false,6) else (⟨r1,r2,r3,r4,r5⟩,(K:Int),false,0)):=by
     rw[Hid,HX3.out,if_neg (by omega)];rfl
    have hfc:=HF.out.keep (zaa HR4.out.2.2.2.2)
    obtain⟨-,fa',fcap',hv',hfat⟩:=hfc.open
    cases hv'
    obtain⟨fb,fo,hfa,hfok,g0,g1,g2,g3,g4,g5⟩:=hfat K (by rw[←HFL.out];exact hKl)
    have hixf:=zau Tryz.underlying74 zcY hfa K hKl (cap:=fcap)
    have HFA:=hid hfa
    have hfbl:fb<wc.heap.size:=World.block_lt_of_cell? wc _ g0
    clear hfa hfat hfc
    obtain⟨f,HFF⟩:∃ f,Hid (f=fs.getD K .zero):=⟨_,rfl⟩
    rw[←HFF.out] at hfok g0 g1 g2 g3 g4 g5 HX4
    have HFO:=hid hfok
    clear hfok
    obtain⟨fname,fnumber,fkind,frep,fpacked,fof⟩:=f
    simp only at g0 g1 g2 g3 g4 g5 HX4
    obtain⟨run,HRUN⟩:∃ run,Hid (run=(frep&&zac fkind&&decide (r2=2))):=⟨_,rfl⟩
    rw[←HRUN.out] at HX4
    obtain⟨fx,HFX⟩:∃ fx,Hid (fx=wc.heap.size):=⟨_,rfl⟩
    have HPQ:Hid (p≠fx∧q≠fx∧B0≠fx∧B1≠fx∧q≠p∧B1≠p):=by
     have h1:=HR4.out.2.1.lt
     have h2:=HR4.out.2.2.1.lt
     refine⟨by rw[HFX.out];omega,by rw[HFX.out];omega,by rw[HFX.out];omega,by rw[HFX.out];omega,?_,?_⟩
     ·
      rintro rfl
      have:=HR4.out.1.symm.trans HR4.out.2.1
      simp at this
     ·
      omega
    go_upto_region 8 with fail
    rw[←HFX.out]
    go_cut [] (fun wx=>Hid (Blk wx p (zdh ⟨r1,r2,r3,r4,r5⟩ K run) 212∧Blk wx q (zqt ⟨r1,r2,r3,r4,r5⟩) 210∧Blk wx B1 (zdh .none 0 false) 212∧Blk wx fx [.string fname,.int .i64 fnumber,.int .i64 fkind,.bool frep,.bool fpacked,.int .i64 fof] 73∧Below w.heap.size w wx))
    case first =>
     have HV:Hid (Blk (wc.alloc (.cells #[.string fname,.int .i64 fnumber,.int .i64 fkind,.bool frep,.bool fpacked,.int .i64 fof] 73)) p (zdh ⟨r1,r2,r3,r4,r5⟩ K false) 212∧Blk (wc.alloc (.cells #[.string fname,.int .i64 fnumber,.int .i64 fkind,.bool frep,.bool fpacked,.int .i64 fof] 73)) q (zqt ⟨r1,r2,r3,r4,r5⟩) 210∧Blk (wc.alloc (.cells #[.string fname,.int .i64 fnumber,.int .i64 fkind,.bool frep,.bool fpacked,.int .i64 fof] 73)) B1 (zdh .none 0 false) 212∧Blk (wc.alloc (.cells #[.string fname,.int .i64 fnumber,.int .i64 fkind,.bool frep,.bool fpacked,.int .i64 fof] 73)) fx [.string fname,.int .i64 fnumber,.int .i64 fkind,.bool frep,.bool fpacked,.int .i64 fof] 73∧Below w.heap.size w (wc.alloc (.cells #[.string fname,.int .i64 fnumber,.int .i64 fkind,.bool frep,.bool fpacked,.int .i64 fof] 73))):=
      ⟨HR4.out.1.alloc _,HR4.out.2.1.alloc _,HR4.out.2.2.2.1.alloc _,by rw[HFX.out];exact Blk.new wc _ _,HR4.out.2.2.2.2.alloc HR4.out.2.2.2.2.size _⟩
     have hwp:w.heap.size≤p:=by omega
     cases frep with
     | false =>
      obtain rfl:run=false:=by rw[HRUN.out];rfl
      have HNF:Hid (Blk ((wc.setCell ⟨p,6,none⟩ (.bool false)).alloc (.cells #[.string fname,.int .i64 fnumber,.int .i64 fkind,.bool false,.bool fpacked,.int .i64 fof] 73)) fx [.string fname,.int .i64 fnumber,.int .i64 fkind,.bool false,.bool fpacked,.int .i64 fof] 73):=by
       have:=Blk.new (wc.setCell ⟨p,6,none⟩ (.bool false)) [.string fname,.int .i64 fnumber,.int .i64 fkind,.bool false,.bool fpacked,.int .i64 fof] 73
       rw[show (wc.setCell ⟨p,6,none⟩ (.bool false)).heap.size=wc.heap.size by simp,←HFX.out] at this
       exact this
      have x3:=HV.out.2.2.2.1.cell 3 _ rfl
      go_wp2_with fail
      go_meet
      case rel =>
       exact⟨(HR4.out.1.set 6 _).alloc _,(HR4.out.2.1.set_other _ _ HPQ.out.2.2.2.2.1).alloc _,(HR4.out.2.2.2.1.set_other _ _ HPQ.out.2.2.2.2.2).alloc _,HNF.out,(HR4.out.2.2.2.2.setCell hwp _).alloc (by simp;exact HR4.out.2.2.2.2.size) _⟩
     | true =>
      have x3:=HV.out.2.2.2.1.cell 3 _ rfl
      have x2:=HV.out.2.2.2.1.cell 2 _ rfl
      go_wp2_with fail
      refine (zaQ fkind _).mono ?_
      rintro e w6 ⟨rfl,hb6⟩
      have HV6:=hid (show Blk w6 p (zdh ⟨r1,r2,r3,r4,r5⟩ K false) 212∧Blk w6 q (zqt ⟨r1,r2,r3,r4,r5⟩) 210∧Blk w6 B1 (zdh .none 0 false) 212∧Blk w6 fx [.string fname,.int .i64 fnumber,.int .i64 fkind,.bool true,.bool fpacked,.int .i64 fof] 73∧Below w.heap.size w w6 from ⟨HV.out.1.below hb6,HV.out.2.1.below hb6,HV.out.2.2.1.below hb6,HV.out.2.2.2.1.below hb6,zag HV.out.2.2.2.2 hb6 HV.out.2.2.2.2.size⟩)
      have p6':=HV6.out.1.cell 6 _ rfl
      have pz':=HV6.out.1.free
      have pl':=HV6.out.1.lt
      have q1':=HV6.out.2.1.cell 1 _ rfl
      clear hb6 p0 p1 p2 p3 p4 p5 p6 pz
      cases hkn:zac fkind with
      | false =>
       obtain rfl:run=false:=by rw[HRUN.out,hkn];rfl
       have HKN:=hid hkn
       clear hkn
       go_wp2_with fail
       go_meet
       case rel =>
        exact⟨HV6.out.1.set 6 _,HV6.out.2.1.set_other _ _ HPQ.out.2.2.2.2.1,HV6.out.2.2.1.set_other _ _ HPQ.out.2.2.2.2.2,HV6.out.2.2.2.1.set_other _ _ (Ne.symm HPQ.out.1),HV6.out.2.2.2.2.setCell hwp _⟩
      | true =>
       by_cases h2:r2=2
       ·
        obtain rfl:run=true:=by rw[HRUN.out,hkn];simp[h2]
        have HKN:=hid hkn
        have h2':((r2:Int) == 2)=true:=by simp;omega
        have H2:=hid h2
        clear hkn h2
        go_wp2_with fail
        go_meet
        case rel =>
         exact⟨HV6.out.1.set 6 _,HV6.out.2.1.set_other _ _ HPQ.out.2.2.2.2.1,HV6.out.2.2.1.set_other _ _ HPQ.out.2.2.2.2.2,HV6.out.2.2.2.1.set_other _ _ (Ne.symm HPQ.out.1),HV6.out.2.2.2.2.setCell hwp _⟩
       ·
        obtain rfl:run=false:=by rw[HRUN.out,hkn];simp[h2]
        have HKN:=hid hkn
        have h2':((r2:Int) == 2)=false:=by simp;omega
        have H2:=hid h2
        clear hkn h2
        go_wp2_with fail
        go_meet
        case rel =>
         exact⟨HV6.out.1.set 6 _,HV6.out.2.1.set_other _ _ HPQ.out.2.2.2.2.1,HV6.out.2.2.1.set_other _ _ HPQ.out.2.2.2.2.2,HV6.out.2.2.2.1.set_other _ _ (Ne.symm HPQ.out.1),HV6.out.2.2.2.2.setCell hwp _⟩
    case rest =>
     have HV:=hid hcut.out
     clear hcut p0 p1 p2 p3 p4 p5 p6 pz pl q0 q1 b0 b1 b2 b3 b4 b5 b6 bz blt m0 m1 g0 g1 g2 g3 g4 g5 hixf
     have hwp:w.heap.size≤p:=by omega
     have x2:=HV.out.2.2.2.1.cell 2 _ rfl
     go_wp2_with fail
     refine (zc3 fkind _).mono ?_
     rintro e w7 ⟨rfl,hb7⟩
     have HV7:=hid (show Blk w7 p (zdh ⟨r1,r2,r3,r4,r5⟩ K run) 212∧Blk w7 q (zqt ⟨r1,r2,r3,r4,r5⟩) 210∧Blk w7 B1 (zdh .none 0 false) 212∧Below w.heap.size w w7 from ⟨HV.out.1.below hb7,HV.out.2.1.below hb7,HV.out.2.2.1.below hb7,zag HV.out.2.2.2.2 hb7 HV.out.2.2.2.2.size⟩)
     clear hb7 x2
     have p0:=HV7.out.1.cell 0 _ rfl
     have p1:=HV7.out.1.cell 1 _ rfl
     have p2:=HV7.out.1.cell 2 _ rfl
     have p3:=HV7.out.1.cell 3 _ rfl
     have p4:=HV7.out.1.cell 4 _ rfl
     have p5:=HV7.out.1.cell 5 _ rfl
     have p6:=HV7.out.1.cell 6 _ rfl
     have q1:=HV7.out.2.1.cell 1 _ rfl
     have b0:=HV7.out.2.2.1.cell 0 _ rfl
     have b1:=HV7.out.2.2.1.cell 1 _ rfl
     have b2:=HV7.out.2.2.1.cell 2 _ rfl
     have b3:=HV7.out.2.2.1.cell 3 _ rfl
     have b4:=HV7.out.2.2.1.cell 4 _ rfl
     have b5:=HV7.out.2.2.1.cell 5 _ rfl
     have b6:=HV7.out.2.2.1.cell 6 _ rfl
     have bz:=HV7.out.2.2.1.free
     have blt:=HV7.out.2.2.1.lt
     obtain⟨wr2,HWR⟩:∃ wr2,Hid (wr2=zas fkind):=⟨_,rfl⟩
     rw[←HWR.out] at HX4 ⊢
     cases run with
     | true =>
      obtain rfl:x=(⟨r1,r2,r3,r4,r5⟩,(K:Int),true,0):=by rw[HX4.out,if_pos rfl]
      cases hkr:zaM fkind
      all_goals
       have HKR:=hid hkr
       clear hkr
       simp only[Bool.false_eq_true,if_false,if_true]
       go_wp2
       refine bodyPost_ret (v:=.tuple #[zc4 ⟨r1,r2,r3,r4,r5⟩ K true,.int .u8 0]) ?_ rfl ⟨rfl,?_⟩
       ·
        simp[results,Tryz.results175,go_sem,zc4,b0,b1,b2,b3,b4,b5,b6]
       ·
        (with_reducible repeat first|exact Below.refl _ _|refine pzA ?_ _|refine pzB ?_ _|refine zab ?_ _|refine Below.drew ?_)
        exact HV7.out.2.2.2
     | false =>
      have HX5:Hid (x=if zaM fkind=false∨wr2≠r2 then (.none,0,false,6) else (⟨r1,r2,r3,r4,r5⟩,(K:Int),false,0)):=by rw[Hid,HX4.out,if_neg (by decide)]
      cases hkr:zaM fkind with
      | false =>
       obtain rfl:x=(.none,0,false,6):=by rw[HX5.out,if_pos (.inl hkr)]
       have HKR:=hid hkr
       clear hkr
       simp only[Bool.false_eq_true,if_false]
       go_wp2
       refine bodyPost_ret (v:=.tuple #[zc4 .none 0 false,.int .u8 6]) ?_ rfl ⟨rfl,?_⟩
       ·
        simp[results,Tryz.results175,go_sem,zc4,Rec.none,b0,b1,b2,b3,b4,b5,b6]
       ·
        (with_reducible repeat first|exact Below.refl _ _|refine pzA ?_ _|refine pzB ?_ _|refine zab ?_ _|refine Below.drew ?_)
        exact HV7.out.2.2.2
      | true =>
       by_cases hw:wr2=r2
       ·
        obtain rfl:x=(⟨r1,r2,r3,r4,r5⟩,(K:Int),false,0):=by rw[HX5.out,if_neg (by simp[hkr,hw])]
        have HKR:=hid hkr
        have hw':((wr2:Int) == (r2:Int))=true:=by simp;omega
        have hw2:((wr2:Int) != (r2:Int))=false:=by simp;omega
        have HW:=hid hw
        clear hkr hw
        simp only[if_true]
        go_wp2
        refine bodyPost_ret (v:=.tuple #[zc4 ⟨r1,r2,r3,r4,r5⟩ K false,.int .u8 0]) ?_ rfl ⟨rfl,?_⟩
        ·
         simp[results,Tryz.results175,go_sem,zc4,b0,b1,b2,b3,b4,b5,b6]
        ·
         (with_reducible repeat first|exact Below.refl _ _|refine pzA ?_ _|refine pzB ?_ _|refine zab ?_ _|refine Below.drew ?_)
         exact HV7.out.2.2.2
       ·
        obtain rfl:x=(.none,0,false,6):=by rw[HX5.out,if_pos (.inr hw)]
        have HKR:=hid hkr
        have hw':((wr2:Int) == (r2:Int))=false:=by simp;omega
        have hw2:((wr2:Int) != (r2:Int))=true:=by simp;omega
        have HW:=hid hw
        clear hkr hw
        simp only[if_true]
        go_wp2
        refine bodyPost_ret (v:=.tuple #[zc4 .none 0 false,.int .u8 6]) ?_ rfl ⟨rfl,?_⟩
        ·
         simp[results,Tryz.results175,go_sem,zc4,Rec.none,b0,b1,b2,b3,b4,b5,b6]
        ·
         (with_reducible repeat first|exact Below.refl _ _|refine pzA ?_ _|refine pzB ?_ _|refine zab ?_ _|refine Below.drew ?_)
         exact HV7.out.2.2.2
 ·
  have hc0:((c:Int) == 0)=false:=by simp;omega
  obtain rfl:x=(.none,0,false,c):=by rw[HX.out,if_pos hc]
  have b0:=H1.out.cell 0 _ rfl
  have b1:=H1.out.cell 1 _ rfl
  have b2:=H1.out.cell 2 _ rfl
  have b3:=H1.out.cell 3 _ rfl
  have b4:=H1.out.cell 4 _ rfl
  have b5:=H1.out.cell 5 _ rfl
  have b6:=H1.out.cell 6 _ rfl
  have bz:=H1.out.free
  have blt:=H1.out.lt
  obtain⟨r1,r2,r3,r4,r5⟩:=r
  unfold Rec.val
  have HC:=hid hc
  clear hc
  simp only
  go_wp2
  refine bodyPost_ret (v:=.tuple #[zc4 .none 0 false,.int .u8 c]) ?_ rfl ⟨rfl,?_⟩
  ·
   simp[results,Tryz.results175,go_sem,zc4,Rec.none,b0,b1,b2,b3,b4,b5,b6,blt]
  ·
   (with_reducible repeat first|exact Below.refl _ _|refine pzA ?_ _|refine pzB ?_ _|refine zab ?_ _|refine Below.drew ?_)
   exact HB1.out
end
section
open Go.RowKit
end
end Go.Proofs.YtpckoeicbjfnhaaGreatDoor
