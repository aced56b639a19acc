/- darningref14.Of: what valid bytes mean (tof). At most 2^40 bytes. -/
import Derived.Test.YtphkmpnahnakaaaGreatZ16
import Derived.Test.YtphkmpnahnakaaaGreatZ18
import Derived.Test.YtphkmpnahnakaaaGreatZ25
import Derived.Test.YtphkmpnahnakaaaGreatZ29
import Derived.Test.YtphkmpnahnakaaaGreatZ30
import Derived.Test.YtphkmpnahnakaaaGreatZ38
import Derived.Test.YtphkmpnahnakaaaGreatZ41
import Derived.Deep.CutBlock
import Derived.Deep.CutRange
import Derived.Deep.RegionLaw
namespace Go.Proofs.YtphkmpnahnakaaaGreat
open Go.RowKit Go.Shelf
theorem sright_fields {s:List Mes} (h:sright s = true) (m:Nat) (hm:m < s.length):(s.getD m .zero).fields.length ≤ 200:=by
 have h0:(scheck s).2.2 = 0:=of_decide_eq_true h
 unfold scheck at h0
 by_cases h1:s.length = 0 ∨ 100 < s.length
 ·
  rw [if_pos h1] at h0;simp at h0
 rw [if_neg h1] at h0
 have hmem:s.getD m .zero ∈ s:=by
  have:s.getD m .zero = s[m]:=by simp [List.getD,hm]
  rw [this];exact List.getElem_mem hm
 exact (scheckGo_ok s [] 0 h0 _ hmem).2.1
theorem viewsOf_step {all:List VW} {k:Nat} {x:VW} (h:all[k]? = some x) (q:Int):viewsOf (all.take (k + 1)) q = if x.k = q then viewsOf (all.take k) q ++ [x] else viewsOf (all.take k) q:=by
 unfold viewsOf
 rw [List.take_add_one,h,List.filter_append]
 by_cases hq:x.k = q
 ·
  simp [hq]
 ·
  simp [hq]
theorem views_cells {w:World} {a:Option Addr} {n c base:Nat} {T:TypeId} {l:List VW} (h:RowsOwn viewP T 7 0 base w (.slice a n c) l) (hl:l.length ≤ 140737488355328) (k:Nat) (x:VW) (hk:l[k]? = some x) :
  ∃ b o,a = some ⟨b,o,none⟩ ∧ ∀ j u,x.cells[j]? = some u → w.cell? ⟨b,o + k * 7 + j,none⟩ = some u:=by
 obtain ⟨rows,g1,g2,⟨-,-,a',cap',he,-,-,-,g3⟩,g4⟩:=h.at hl (w':=w) (fun _ _ _ => rfl)
 have hkl:=(List.getElem?_eq_some_iff.1 hk).1
 obtain ⟨r,hr⟩:∃ r,rows[k]? = some r:=⟨_,List.getElem?_eq_getElem (by omega)⟩
 have hx:r = x.cells:=g4 k r x hr hk
 cases he
 have hfl:∀ j u,x.cells[j]? = some u → rows.flatten[k * 7 + j]? = some u:=by
  intro j u hu
  have hj:j < 7:=by have:=(List.getElem?_eq_some_iff.1 hu).1;simpa [VW.cells,viewL] using this
  rw [flatten_get rows k j r g2 hr hj,hx,hu]
 obtain ⟨b,o,ha,-⟩:=g3 (k * 7 + 0) _ (hfl 0 _ rfl)
 refine ⟨b,o,ha,fun j u hu => ?_⟩
 obtain ⟨b',o',ha',hc⟩:=g3 (k * 7 + j) u (hfl j u hu)
 rw [ha] at ha'
 cases ha'
 rw [Nat.add_assoc];exact hc
theorem grown_over {w3 wr w5:World} {O r:Nat} (h:w3.grownBy wr (some r)) (hO:w3.heap.size = O) (hb:Below O wr w5):w3.grownBy w5 (some r):=
 ⟨hb.os.trans h.os,hb.tape.trans h.tape,hb.output.trans h.output,Nat.le_trans h.size hb.size,fun k hk hr => (hb.block k (by omega)).trans (h.block k hk hr)⟩
set_option maxRecDepth 100000 in
set_option maxHeartbeats 8000000 in
theorem ref14_Of_step {w0:World} {sv:Value} {s:List Mes} (hS:SchemaAt w0 sv s) (hs:sright s = true) (d:Nat) (hrec:∀ d',d = d' + 1 → ROfOk w0 sv s d'):ROfOk w0 sv s d:=by
 intro m w v l hm hC hv hl hok
 obtain ⟨hall,hvs⟩:=vall_ok hok
 have HC:=hid hC
 have HS:=hid hS
 have HV:=hid hv
 obtain ⟨hslen,sa,scap,rfl,hat⟩:=hS.open
 obtain ⟨sb,so,fv,rfl,hnm,c0,c1,hfat⟩:=hat m hm
 clear hat hS
 obtain ⟨hvl,va,vcap,rfl,-,-,-,-⟩:=hv.open
 obtain ⟨ln,HL⟩:∃ ln,Hid (ln = l.length):=⟨_,rfl⟩
 rw [← HL.out] at hl hvl HV ⊢
 obtain ⟨sn,HSN⟩:∃ sn,Hid (sn = s.length):=⟨_,rfl⟩
 rw [← HSN.out] at hslen HS ⊢
 have hmn:m < sn:=by rw [HSN.out];exact hm
 obtain ⟨fs,HFS⟩:∃ fs,Hid (fs = (s.getD m .zero).fields):=⟨_,rfl⟩
 obtain ⟨nm,HNM⟩:∃ nm,Hid (nm = (s.getD m .zero).name):=⟨_,rfl⟩
 rw [← HNM.out] at c0 hnm
 rw [← HFS.out] at hfat hall
 obtain ⟨all,HALL⟩:∃ all,Hid (all = (vall fs l).1):=⟨_,rfl⟩
 have HVS:=hid hvs
 have HOKV:=hid hok
 have HRE:=hid hrec
 rw [← HSN.out] at HRE
 have hkr:=below_keeps hC
 replace c0:=hkr _ _ c0
 replace c1:=hkr _ _ c1
 have HFT:=hid (hfat.keep hkr)
 have hfl200:fs.length ≤ 200:=by rw [HFS.out];exact sright_fields hs m hm
 obtain ⟨Q,HQ⟩:∃ Q:Ending → World → Prop,Hid (Q = fun e w' => ∃ v',e = .returned v' ∧ Below w.heap.size w w' ∧ Apart 0 w.heap.size w' fun w2 => MsgAt (d + 1) w2 v' (tof s d m l)):=⟨_,rfl⟩
 rw [← HQ.out]
 have hft:=hfat.keep hkr
 obtain ⟨hfl,fa,fc,rfl,-⟩:=hft.open
 obtain ⟨fn,HFN⟩:∃ fn,Hid (fn = fs.length):=⟨_,rfl⟩
 rw [← HFN.out] at HFT c1 hfl hft
 have hsb:sb < w.heap.size:=World.block_lt_of_cell? w _ c0
 obtain ⟨X,HX⟩:∃ X,Hid (X = w.heap.size):=⟨_,rfl⟩
 obtain ⟨W1,HW1⟩:∃ W1,Hid (W1 = w.alloc (.cells #[.slice none 0 0,.slice none 0 0] 78)):=⟨_,rfl⟩
 have hb1:Below w.heap.size w W1:=by rw [HW1.out];(repeat (first | with_reducible exact Below.refl _ _ | with_reducible refine Below.setCell ?_ (by first | omega | (simp;omega) | (simp;done)) _ | with_reducible refine Below.alloc ?_ (by first | omega | (simp;omega) | (simp;done)) _ | with_reducible refine below_drewN ?_ _ | with_reducible refine Below.drew ?_))
 have hx1:Blk W1 X [.slice none 0 0,.slice none 0 0] 78:=by rw [HW1.out,HX.out];exact Blk.new w [.slice none 0 0,.slice none 0 0] _
 have HB1:=hid hb1
 have HX1:=hid hx1
 have HA:=hid (ref10_All (HV.out.below hb1) (by rw [← HL.out];exact hl) (hft.below hb1) nm)
 have e0:=below_keeps hb1 _ _ c0
 have e1:=below_keeps hb1 _ _ c1
 clear hrec hvs hfat hC hv hkr hok hft hb1 hx1
 go_enter Tryz.func23,Tryz.ntmps23
 go_wp2_with ((try rw [← HW1.out]);go_at_call 20;refine HA.out.mono ?_;rintro e w2 ⟨av,ab,rfl,hab,hrows,hb2⟩;obtain ⟨aa,ac,rfl⟩:=hrows.form;have e0:=below_keeps hb2 _ _ e0;have e1:=below_keeps hb2 _ _ e1;have hsb2:sb < w2.heap.size:=by have:=hb2.size;have:=HB1.out.size;omega)
 obtain ⟨W2,HW2⟩:∃ W2,Hid (W2 = w2.alloc (.cells #[.slice none 0 0,.slice none 0 0] 78)):=⟨_,rfl⟩
 rw [← HW2.out]
 have hb22:Below w2.heap.size w2 W2:=by rw [HW2.out];(repeat (first | with_reducible exact Below.refl _ _ | with_reducible refine Below.setCell ?_ (by first | omega | (simp;omega) | (simp;done)) _ | with_reducible refine Below.alloc ?_ (by first | omega | (simp;omega) | (simp;done)) _ | with_reducible refine below_drewN ?_ _ | with_reducible refine Below.drew ?_))
 have hft2:FieldsAt W2 (.slice fa fn fc) fs:=((HFT.out.below HB1.out).below hb2).below hb22
 go_at_call 37
 refine (ref07_Sorted nm hft2 (Nat.le_trans hfl200 (by decide))).mono ?_
 rintro e w3 ⟨ov,rfl,hord,hb3⟩
 obtain ⟨oa,oc,rfl⟩:=hord.form
 obtain ⟨Xb,HXB⟩:∃ X,Hid (X = w2.heap.size):=⟨_,rfl⟩
 rw [← HXB.out]
 have hxb:Blk w3 Xb [.slice none 0 0,.slice none 0 0] 78:=by
  rw [HXB.out]
  have:=Blk.new w2 [.slice none 0 0,.slice none 0 0] 78
  rw [← HW2.out] at this
  exact this.below hb3
 have hsz2:W2.heap.size = Xb + 1:=by rw [HW2.out,HXB.out];simp
 have hXX:X < Xb:=by rw [HX.out,HXB.out];have:=hb2.size;have:=HX1.out.lt;rw [HX.out] at this;omega
 have hb23:Below w2.heap.size w2 w3:=hb22.trans (hb3.mono hb22.size)
 have HK:Hid (∀ wr,w3.grownBy wr (some Xb) → (∀ p u,w2.cell? p = some u → wr.cell? p = some u) ∧ IntsAt wr (.slice oa (sortedF fs).length oc) (sortedF fs) ∧ Blk wr X [.slice none 0 0,.slice none 0 0] 78 ∧ Below w.heap.size w wr):=by
  intro wr hg
  have hs3:=hb23.size
  refine ⟨fun p u hu => ?_,?_,?_,?_⟩
  ·
   have hp:=World.block_lt_of_cell? w2 p hu
   rw [World.cell?_of_block (hg.block p.block (by omega) (by rw [HXB.out];intro e;injection e with e;omega))]
   exact below_keeps hb23 _ _ hu
  ·
   have hI:=hord.ints (by rw [sortedF_len];omega) (fun x hx => by
    have:=sortedF_mem hx
    constructor <;> omega)
   refine ⟨row_seg (row_keep hord fun b cur hb he => hg.block b (Array.getElem?_eq_some_iff.1 he).1 ?_) (by rw [sortedF_len];omega),hI.2⟩
   intro e;injection e with e;omega
  ·
   exact (hg.block X (by have:=HXB.out;omega) (by intro e;injection e with e;omega)).trans (hb23.block X (by have:=HXB.out;omega) |>.trans (hb2.block X HX1.out.lt |>.trans HX1.out))
  ·
   have hs1:=HB1.out.size
   have hs2:=hb2.size
   have hs4:=hb2.size
   have h1:Below w.heap.size w w3:=(HB1.out.trans (hb2.mono hs1)).trans (hb23.mono (by omega))
   exact h1.grown hg (by have:=HX.out;have:=HXB.out;omega) (fun q e => by injection e with e;have:=HX.out;omega)
 have HE1:=hid e1
 have HFT2:=hid (((HFT.out.below HB1.out).below hb2))
 have HORD:=hid hord
 clear hord hb3 hb22 hft2
 have HROWS:=hid hrows
 rw [sortedF_len,← HFN.out] at HK ⊢
 have hal:(vall fs l).1.length ≤ l.length:=vall_len fs l
 rw [← HALL.out] at HROWS hal ⊢
 obtain ⟨an,HAN⟩:∃ n,Hid (n = all.length):=⟨_,rfl⟩
 rw [← HAN.out] at HROWS hal ⊢
 have hanb:an ≤ 1099511627776:=by have:=HL.out;omega
 obtain ⟨FV,HFV⟩:∃ FV:Int → Val (M d),Hid (FV = fun i => fieldV (tsub s d) (fs.getD i.toNat .zero) l (viewsOf all i)):=⟨_,rfl⟩
 obtain ⟨vals,HVALS⟩:∃ vals:Nat → List (Val (M d)),Hid (vals = fun t => (((sortedF fs).take t).map FV).filter fun v => decide (0 < many v)):=⟨_,rfl⟩
 have HXL:=hid hxb.lt
 have HB23:=hid hb23
 generalize hO:w3.heap.size = O at *
 have HO:=hid hO
 clear hO
 obtain ⟨zc,HZC⟩:∃ z,Hid (z = (vall fs l).2.1):=⟨_,rfl⟩
 rw [← HZC.out]
 have HHX:=hid hxb
 clear hxb hrows hb23 hb2 hab e0 e1 HA HX1 HB1
 go_wp2_with fail
 go_loopw [12] (fun v12 wr => ∃ (i:Nat) (xa:Option Addr) (xn xc:Nat),v12 = .int .i64 (i:Int) ∧ i ≤ fn ∧ Hid (w3.grownBy wr (some Xb) ∧ Blk wr Xb [.slice xa xn xc,.slice none 0 0] 78 ∧ xn = (vals i).length ∧ xn ≤ i ∧ RowsOwn (ValP' d) 93 4 0 O wr (.slice xa xn xc) (vals i))) (fun v12 _ => fn - (intOf v12).toNat)
 case atStart => exact ⟨0,none,0,0,rfl,by omega,grown_refl _ _,HHX.out,by rw [HVALS.out];rfl,by omega,by rw [HVALS.out];exact RowsOwn.nil _ _ _ _ _ _⟩
 case round =>
  obtain ⟨i,xa,xn,xc,rfl,hi,HI⟩:=hrel
  obtain ⟨k2,hord,hbX,hbw⟩:=HK.out wr HI.out.1
  by_cases hlt:i < fn
  ·
   obtain ⟨ord,hoi⟩:∃ x,(sortedF fs)[i]? = some x:=⟨_,List.getElem?_eq_getElem (by rw [sortedF_len,← HFN.out];exact hlt)⟩
   obtain ⟨hr0,hr1⟩:=sortedF_mem (List.mem_of_getElem? hoi)
   obtain ⟨q,rfl⟩:∃ q:Nat,ord = (q:Int):=⟨ord.toNat,by omega⟩
   have hq:q < fn:=by rw [HFN.out];omega
   obtain ⟨f,HF⟩:∃ f,Hid (f = fs.getD q .zero):=⟨_,rfl⟩
   have e1:=k2 _ _ HE1.out
   obtain ⟨-,fa',fc',hfe,hfat⟩:=(HFT2.out).open
   rw [← HFN.out] at hfe
   cases hfe
   obtain ⟨b,o,ha,hok,g0,g1,g2,g3,g4,g5⟩:=hfat q (by rw [← HFN.out];exact hq)
   rw [← HF.out] at hok g0 g1 g2 g3 g4 g5
   clear hfat
   have HOK:=hid hok
   replace g0:=k2 _ _ g0
   replace g1:=k2 _ _ g1
   replace g2:=k2 _ _ g2
   replace g3:=k2 _ _ g3
   replace g4:=k2 _ _ g4
   replace g5:=k2 _ _ g5
   obtain ⟨-,oa',oc',hoe,-,hoat⟩:=hord.open
   rw [sortedF_len,← HFN.out] at hoe
   cases hoe
   obtain ⟨-,b2,o2,ha2,gO⟩:=hoat i _ hoi
   have hbl:b < wr.heap.size:=World.block_lt_of_cell? wr _ g0
   have hbl2:b2 < wr.heap.size:=World.block_lt_of_cell? wr _ gO
   have hbl3:sb < wr.heap.size:=World.block_lt_of_cell? wr _ e1
   have HK2:=hid k2
   have HBX:=hid hbX
   have HBW:=hid hbw
   have HOI:=hid hoi
   obtain ⟨fnm,HFNM⟩:∃ y,Hid (y = f.name):=⟨_,rfl⟩
   obtain ⟨fno,HFNO⟩:∃ y,Hid (y = f.number):=⟨_,rfl⟩
   obtain ⟨fki,HFKI⟩:∃ y,Hid (y = f.kind):=⟨_,rfl⟩
   obtain ⟨fre,HFRE⟩:∃ y,Hid (y = f.rep):=⟨_,rfl⟩
   obtain ⟨fpa,HFPA⟩:∃ y,Hid (y = f.packed):=⟨_,rfl⟩
   obtain ⟨fof,HFOF⟩:∃ y,Hid (y = f.of):=⟨_,rfl⟩
   rw [← HFNM.out] at g0
   rw [← HFNO.out] at g1
   rw [← HFKI.out] at g2
   rw [← HFRE.out] at g3
   rw [← HFPA.out] at g4
   rw [← HFOF.out] at g5
   subst ha
   subst ha2
   clear hoat hok k2 hord hbX hbw hoi hr0 hr1
   go_wp2_with fail
   go_region_held3 (fun w' => w'.cell? ⟨sb,so + m * 2 + 1,none⟩ = some (.slice (some ⟨b,o,none⟩) fn fc) ∧ w'.cell? ⟨b2,o2 + i,none⟩ = some (.int .i64 (q:Int)) ∧ w'.cell? ⟨b,o + q * 6,none⟩ = some (.string fnm) ∧ w'.cell? ⟨b,o + q * 6 + 1,none⟩ = some (.int .i64 fno) ∧ w'.cell? ⟨b,o + q * 6 + 2,none⟩ = some (.int .i64 fki) ∧ w'.cell? ⟨b,o + q * 6 + 3,none⟩ = some (.bool fre) ∧ w'.cell? ⟨b,o + q * 6 + 4,none⟩ = some (.bool fpa) ∧ w'.cell? ⟨b,o + q * 6 + 5,none⟩ = some (.int .i64 fof)) (first | (with_reducible exact ⟨e1,gO,g0,g1,g2,g3,g4,g5⟩) | go_keep) (fail)
   obtain ⟨F,HFB⟩:∃ F,Hid (F = wr.heap.size):=⟨_,rfl⟩
   obtain ⟨W4,HW4⟩:∃ W4,Hid (W4 = (wr.alloc (.cells #[.string fnm,.int .i64 fno,.int .i64 fki,.bool fre,.bool fpa,.int .i64 fof] 48)).drew):=⟨_,rfl⟩
   have hb4:Below wr.heap.size wr W4:=by rw [HW4.out];exact ((Below.refl _ _).alloc (Nat.le_refl _) _).drew
   have hf4:Blk W4 F [.string fnm,.int .i64 fno,.int .i64 fki,.bool fre,.bool fpa,.int .i64 fof] 48:=by rw [HW4.out,HFB.out];exact Blk.new wr [.string fnm,.int .i64 fno,.int .i64 fki,.bool fre,.bool fpa,.int .i64 fof] _
   have hz4:W4.heap.size = F + 1:=by rw [HW4.out,HFB.out];simp
   rw [← HW4.out,← HFB.out]
   have y1:=hf4.cell 1 _ rfl
   have hFl:=hf4.lt
   obtain ⟨W5,HW5⟩:∃ W5,Hid (W5 = W4.alloc (.cells #[.int .i64 fno,.slice none 0 0,.slice none 0 0,.slice none 0 0] 93)):=⟨_,rfl⟩
   have hv5:Blk W5 (F + 1) [.int .i64 fno,.slice none 0 0,.slice none 0 0,.slice none 0 0] 93:=by rw [HW5.out,← hz4];exact Blk.new W4 [.int .i64 fno,.slice none 0 0,.slice none 0 0,.slice none 0 0] _
   have hb45:Below W4.heap.size W4 W5:=by rw [HW5.out];(repeat (first | with_reducible exact Below.refl _ _ | with_reducible refine Below.setCell ?_ (by first | omega | (simp;omega) | (simp;done)) _ | with_reducible refine Below.alloc ?_ (by first | omega | (simp;omega) | (simp;done)) _ | with_reducible refine below_drewN ?_ _ | with_reducible refine Below.drew ?_))
   have hf5:=hid (hf4.below hb45)
   have hb5:=hid (hb4.trans (hb45.mono hb4.size))
   have hz5:W5.heap.size = F + 1 + 1:=by rw [HW5.out,World.size_alloc,hz4]
   have HGO:=hid gO
   have HV5:=hid hv5
   have HZ4:=hid hz4
   have HZ5:=hid hz5
   clear hb4 hf4 e1 gO g0 g1 g2 g3 g4 g5 hbl hbl2 hbl3 hb45 hv5 hz5 e0 c0 c1 hsb hsb2
   go_upto_block 2 with fail
   rw [← HW5.out]
   obtain ⟨xs,HXS⟩:∃ xs:Nat → List VW,Hid (xs = fun k => viewsOf (all.take k) (q:Int)):=⟨_,rfl⟩
   have HK5:Hid (∀ wi,Below (F + 1) W5 wi → (∀ p u,w2.cell? p = some u → wi.cell? p = some u) ∧ wi.cell? ⟨b2,o2 + i,none⟩ = some (.int .i64 (q:Int)) ∧ Blk wi F [.string fnm,.int .i64 fno,.int .i64 fki,.bool fre,.bool fpa,.int .i64 fof] 48 ∧ Below w.heap.size w wi):=by
    intro wi hb
    have h5:Below wr.heap.size wr wi:=by
     have:=hb5.out
     exact this.trans (hb.mono (by rw [← HFB.out];omega))
    refine ⟨fun p u hu => below_keeps h5 _ _ (HK2.out p u hu),below_keeps h5 _ _ HGO.out,(hb.block F (by omega)).trans hf5.out,HBW.out.trans (h5.mono HBW.out.size)⟩
   have hqf:q < fs.length:=by rw [← HFN.out];exact hq
   have HNR:Hid (-9223372036854775808 ≤ f.number ∧ f.number ≤ 9223372036854775807):=HOK.out.number
   have HFR:=field_recs' hs hm HOKV.out HFS.out hqf HF.out HALL.out
   have HCALL:=sub_call' hs HRE.out hm HFS.out hqf HF.out
   have HPV:Hid (∀ k,(∀ x ∈ xs k,Thin x) ∧ vsum (xs k) ≤ l.length):=by
    intro k;rw [HXS.out,HALL.out];exact part_views fs l k _
   have HXA:Hid (xs an = viewsOf all (q:Int)):=by
    have h1:all.take an = all:=by rw [HAN.out];exact List.take_length
    rw [HXS.out]
    show viewsOf (all.take an) (q:Int) = _
    rw [h1]
   clear hqf
   go_cut [15,16] from 59 to 160 (fun s15 s16 wi => ∃ (a0:Option Addr) (n0 c0:Nat) (a1:Option Addr) (n1 c1:Nat) (a2:Option Addr) (n2 c2:Nat) (a3:Option Addr) (n3 c3:Nat),s15 = .slice a0 n0 c0 ∧ s16 = .bool (!decide (xs an = [])) ∧ Hid (OfSt W5 F s d f l (xs an) wi (.slice a0 n0 c0) (.slice a1 n1 c1) (.slice a2 n2 c2) (.slice a3 n3 c3)))
   case first =>
    go_wp2_with fail
    go_loopw [15,16,17] (fun v15 v16 v17 wi => ∃ (k:Nat) (a0:Option Addr) (n0 c0:Nat) (a1:Option Addr) (n1 c1:Nat) (a2:Option Addr) (n2 c2:Nat) (a3:Option Addr) (n3 c3:Nat),v15 = .slice a0 n0 c0 ∧ v16 = .bool (!decide (xs k = [])) ∧ v17 = .int .i64 (k:Int) ∧ k ≤ an ∧ Hid (OfSt W5 F s d f l (xs k) wi (.slice a0 n0 c0) (.slice a1 n1 c1) (.slice a2 n2 c2) (.slice a3 n3 c3))) (fun _ _ v17 _ => an - (intOf v17).toNat)
    case atStart =>
     have h0:xs 0 = []:=by rw [HXS.out];rfl
     refine ⟨0,none,0,0,none,0,0,none,0,0,none,0,0,rfl,by rw [h0];rfl,rfl,by omega,Below.refl _ _,?_,?_⟩
     ·
      rw [← HFNO.out];exact HV5.out
     ·
      rw [h0];exact OfInv.start _ _ _ _ _ _
    case round =>
     obtain ⟨k,a0,n0,c0,a1,n1,c1,a2,n2,c2,a3,n3,c3,rfl,rfl,rfl,hk,HJ⟩:=hrel
     obtain ⟨k2,gO,hfF,hbw⟩:=HK5.out wr HJ.out.1
     by_cases hlk:k < an
     ·
      obtain ⟨x,hx⟩:∃ x,all[k]? = some x:=⟨_,List.getElem?_eq_getElem (by rw [← HAN.out];exact hlk)⟩
      have hst:=viewsOf_step hx (q:Int)
      obtain ⟨vb,vo,haa,hvc⟩:=views_cells HROWS.out (by rw [← HAN.out];omega) k x hx
      subst haa
      have HVC:=hid hvc
      have n3':=k2 _ _ (hvc 3 _ rfl)
      have n4':=k2 _ _ (hvc 4 _ rfl)
      have n5':=k2 _ _ (hvc 5 _ rfl)
      have n6':=k2 _ _ (hvc 6 _ rfl)
      have hvok:=HVS.out x (by rw [← HFS.out,← HALL.out];exact List.mem_of_getElem? hx)
      have hs1:xs (k + 1) = if x.k = (q:Int) then xs k ++ [x] else xs k:=by rw [HXS.out];exact hst
      have hmem:x.k = (q:Int) → x ∈ viewsOf all (q:Int):=fun h => by
       unfold viewsOf;rw [List.mem_filter];exact ⟨List.mem_of_getElem? hx,by simpa using h⟩
      have HMEM:=hid hmem
      have HVOK:=hid hvok
      have HS1:=hid hs1
      obtain ⟨⟨x1,x2,x3,x4,x5⟩,xk,xrun⟩:=x
      simp only at n3' n4' n5' n6'
      clear hvc hst hx k2 hmem hvok hs1 hbw
      by_cases hxq:xk = (q:Int)
      ·
       subst hxq
       have f3:=hfF.cell 3 _ rfl
       obtain ⟨hv1,hv2,hv3,-⟩:=HVOK.out.facts
       simp only at hv1 hv2 hv3
       have hcap:ln ≤ vcap:=by obtain ⟨_,_,a',c',e',h3,_⟩:=HV.out;cases e';exact h3
       have hsl:=slice_lh_run under_bytes size_u8 va ln vcap x4 x5 (by omega) (by have:=HL.out;omega)
       have hxb:=HV.out.sub HL.out x4 x5 (by omega) (by rw [HL.out];omega)
       obtain ⟨sv,HSV⟩:∃ sv,Hid (sliced va x4 x5 vcap 1 = sv):=⟨_,rfl⟩
       rw [HSV.out] at hsl hxb
       have HXB:=hid hxb
       clear hxb
       have HS1':Hid (xs (k + 1) = xs k ++ [⟨⟨x1,x2,x3,x4,x5⟩,(q:Int),xrun⟩]):=by have:=HS1.out;rw [if_pos rfl] at this;exact this
       clear HS1
       go_wp2_with fail
       go_quiet (fail)
       obtain ⟨Wa,HWa⟩:∃ Wq,Hid (Wq = wr.drewN nq):=⟨_,rfl⟩
       rw [← HWa.out]
       have hca:∀ p u,wr.cell? p = some u → Wa.cell? p = some u:=by rw [HWa.out];exact fun _ _ h => h
       replace n3':=hca _ _ n3'
       replace n4':=hca _ _ n4'
       replace n6':=hca _ _ n6'
       replace f3:=hca _ _ f3
       go_wp2_with fail
       go_quiet (fail)
       obtain ⟨Wb,HWb⟩:∃ Wq,Hid (Wq = Wa.drewN nq):=⟨_,rfl⟩
       rw [← HWb.out]
       have hcb:∀ p u,Wa.cell? p = some u → Wb.cell? p = some u:=by rw [HWb.out];exact fun _ _ h => h
       replace f3:=hcb _ _ f3
       have HJb:Hid (OfSt W5 F s d f l (xs k) Wb (.slice a0 n0 c0) (.slice a1 n1 c1) (.slice a2 n2 c2) (.slice a3 n3 c3)):=by
        rw [HWb.out,HWa.out];exact (HJ.out.drewN _).drewN _
       clear HWb HWa hca hcb HJ n3' n4' n5' n6' hsl hfF gO
       go_upto_if 91 with fail
       go_cut [] from 92 to 93 (fun wx => ∃ (a1:Option Addr) (n1 c1:Nat) (a2:Option Addr) (n2 c2:Nat),Hid (OfMid W5 F s d f l (xs k) wx (.slice a0 n0 c0) (.slice a1 n1 c1) (.slice a2 n2 c2) (.slice a3 n3 c3)))
       case first =>
        have v1:=HJb.out.2.1.cell 1 _ rfl
        have v2:=HJb.out.2.1.cell 2 _ rfl
        have w1:=HJb.out.2.1.free 1
        have w2':=HJb.out.2.1.free 2
        have hV':=HJb.out.2.1.lt
        cases fre with
        | true =>
         go_wp2_with fail
         go_meet
         case rel => exact ⟨_,_,_,_,_,_,HJb.out.mid HFRE.out.symm⟩
        | false =>
         go_wp2_with fail
         go_meet
         case rel => exact ⟨none,0,0,none,0,0,HJb.out.clear HFRE.out.symm⟩
       case rest =>
        as_aux_lemma =>
         obtain ⟨a1,n1,c1,a2,n2,c2,HM⟩:=hcut
         obtain ⟨k2,gO,hfF,hbw⟩:=HK5.out wc HM.out.1
         have n6':=k2 _ _ (HVC.out 6 _ rfl)
         have f2:=hfF.cell 2 _ rfl
         have f3:=hfF.cell 3 _ rfl
         have HBX:Hid (Bytes wc sv (part l x4 x5)):=HXB.out.below hbw
         have HSZ:Hid (F + 1 + 1 ≤ wc.heap.size):=by have:=HM.out.1.size;have:=HZ5.out;show _ ≤ _;omega
         have HPL:Hid ((part l x4 x5).length ≤ 1099511627776):=by show _ ≤ _;unfold part;rw [List.length_take,List.length_drop];have:=HL.out;omega
         have HVL:Hid (vsum (xs k) ≤ 1099511627776):=by have:=(HPV.out k).2;have:=HL.out;show _ ≤ _;omega
         obtain ⟨x,HX0⟩:∃ x:VW,Hid (x = ⟨⟨x1,x2,x3,x4,x5⟩,(q:Int),xrun⟩):=⟨_,rfl⟩
         rw [← HX0.out] at HS1' HMEM
         have HXR:Hid (x.run = xrun):=by rw [HX0.out];rfl
         have HVB:Hid (vbytes l x = part l x4 x5):=by rw [HX0.out];rfl
         have HXQ:Hid (x ∈ viewsOf all (q:Int)):=HMEM.out (by first | trivial | rw [HX0.out])
         clear k2 gO HMEM
         cases xrun with
         | true =>
          obtain ⟨hre,hnu⟩:=HFR.out.run _ HXQ.out HXR.out
          have HNU:=hid hnu
          have HPW:Hid (pieceW f l x = (runWords fki (part l x4 x5)).1):=by
           rw [Hid];unfold pieceW;rw [if_pos HXR.out,HVB.out,HFKI.out]
          have HWB:Hid ((runWords fki (part l x4 x5)).1.length ≤ 1099511627776):=by
           rw [Hid,← HPW.out]
           have h1:=@piece_words f l x (all_thin fs l x (by rw [← HALL.out];exact (viewsOf_mem HXQ.out).1))
           have h2:vsize x ≤ l.length:=by
            have h3:=(HPV.out (k + 1)).2
            rw [HS1'.out,vsum_app] at h3
            have:vsum [x] = vsize x:=by unfold vsum;simp
            omega
           have:=HL.out;omega
          have HW:=hid (ref09_Words HBX.out HPL.out fki (by rw [HFKI.out];exact hnu))
          clear hre hnu
          go_wp2_with (first | (go_at_call 38;refine HW.out.mono ?_;rintro e w6 ⟨v6,rfl,hO6,hb6⟩;obtain ⟨a6,c6,rfl⟩:=hO6.form;obtain ⟨a5,n5,c5,w7,hr,hB6,hB7,hS7⟩:=HM.out.run_push HSZ.out HNU.out hb6 hO6 HPW.out HWB.out (HPV.out k).1 HVL.out;have q0:=hB6.cell 1 _ rfl;have q1:=hB7.cell 1 _ rfl;have q2:=hB7.free 1;have q3:=hB7.lt;have HR2:=hid hr;have HS7:=hid hS7;clear hr hS7 hO6 hb6 hB6 hB7) | (at_builtin;refine wpList_append_eq rfl _ _ _ rfl _ _ rfl rfl HR2.out ?_))
          exact ⟨⟨k + 1,_,_,_,_,_,_,_,_,_,_,_,_,rfl,by rw [HS1'.out];simp,by go_num,hlk,by rw [HS1'.out];exact HS7.out⟩,by simp [intOf];omega⟩
         | false =>
          cases hnum:knumber fki with
          | true =>
           have HNU:Hid (knumber fki = true):=hnum
           have HNF:Hid (knumber f.kind = true):=by rw [← HFKI.out];exact hnum
           have v1:=HM.out.2.1.cell 1 _ rfl
           obtain ⟨zw,HZW⟩:∃ zw,Hid (zw = kread fki (part l x4 x5)):=⟨_,rfl⟩
           obtain ⟨z1,z2⟩:=zw
           have HPW:Hid (pieceW f l x = [z1]):=by
            rw [Hid];unfold pieceW;rw [if_neg (by rw [HXR.out];decide),if_pos HNF.out,HVB.out,← HFKI.out,← HZW.out]
           obtain ⟨a5,n5,c5,w7,hr,hB7,hS7⟩:=HM.out.num_push HSZ.out HNF.out HPW.out (HPV.out k).1 HVL.out
           have q1:=hB7.cell 1 _ rfl
           have q2:=hB7.free 1
           have q3:=hB7.lt
           have HR2:=hid hr
           have HS7:=hid hS7
           clear hr hS7 hB7 hnum
           go_wp2_with (first | (go_at_call 39;refine (ref06_Number fki _).mono ?_;rintro e w' ⟨rfl,rfl⟩;rw [HNU.out]) | (go_at_call 40;refine (ref08_Read HNU.out HBX.out).mono ?_;rintro e w' ⟨rfl,rfl⟩;rw [← HZW.out]) | (at_builtin;refine wpList_append_eq rfl _ _ _ rfl _ _ rfl rfl HR2.out ?_))
           exact ⟨⟨k + 1,_,_,_,_,_,_,_,_,_,_,_,_,rfl,by rw [HS1'.out];simp,by go_num,hlk,by rw [HS1'.out];exact HS7.out⟩,by simp [intOf];omega⟩
          | false =>
           have HNU:Hid (knumber fki = false):=hnum
           have HNF:Hid (knumber f.kind = false):=by rw [← HFKI.out];exact hnum
           clear hnum
           by_cases h17:fki = 17
           ·
            have H17:Hid (f.kind = 17):=by rw [← HFKI.out];exact h17
            subst h17
            cases fre with
            | true =>
             have HRE2:Hid (f.rep = true):=HFRE.out.symm
             have f5:=hfF.cell 5 _ rfl
             have c3':=HM.out.2.1.cell 3 _ rfl
             have hfz:=HM.out.2.1.free 3
             have hlt3:=HM.out.2.1.lt
             have e0:wc.drew.cell? ⟨F + 1,3,none⟩ = some (.slice a3 n3 c3):=c3'
             have k0:wc.drew.cell? ⟨F,5,none⟩ = some (.int .i64 fof):=f5
             have HC2:=HCALL.out.at (W:=wc.drew) (v:=sv) (b:=vbytes l x) (HC.out.trans (hbw.mono HC.out.size)).drew (by rw [HVB.out];exact HBX.out) (by rw [HVB.out];exact HPL.out) ((HFR.out.sub H17.out).1 x HXQ.out) HFOF.out
             clear hfF hbw f5
             go_wp2_with ((go_at_call 39;refine (ref06_Number 17 _).mono ?_;rintro e w' ⟨rfl,rfl⟩;rw [HNU.out]))
             go_region_law (first | (go_simp;go_at_call 23;(with_reducible refine HC2.out.mono ?_);rintro e w1 ⟨u1,u2,y,⟨ho1,ho2⟩,hy,rfl,hbm,hap⟩;have hk1:∀ p u,wc.drew.cell? p = some u → w1.cell? p = some u:=below_keeps hbm;have e1:w1.cell? ⟨F + 1,3,none⟩ = some (.slice a3 n3 c3):=hk1 _ _ e0;have k1:w1.cell? ⟨F,5,none⟩ = some (.int .i64 fof):=hk1 _ _ k0;obtain ⟨a5,c5,w5,hr5,hB4,hB5,hS5⟩:=HM.out.sub_push HSZ.out H17.out HRE2.out (HPV.out k).1 HVL.out ((Below.refl wc.heap.size wc).drew.trans hbm) ho1 ho2 hy hap;have e5:w5.cell? ⟨F + 1,3,none⟩ = some (.slice a3 n3 c3):=(hB5.cell (p:=⟨F + 1,3,none⟩) (by show F + 1 < F + 1 + 1;omega)).trans c3';have k3:w5.cell? ⟨F,5,none⟩ = some (.int .i64 fof):=(hB5.cell (p:=⟨F,5,none⟩) (by show F < F + 1 + 1;omega)).trans k0;have z3:w5.frozen? ⟨F + 1,3,none⟩ = false:=(hB5.frozen (p:=⟨F + 1,3,none⟩) (by show F + 1 < F + 1 + 1;omega)).trans hfz;have e4:=(hB4.cell (p:=⟨F + 1,3,none⟩) (by show F + 1 < F + 1 + 1;omega)).trans c3';have HR2:=hid hr5;have HS7:=hid hS5;clear hr5 hS5 hB4 hB5 hk1 hap hbm) | (refine step_append_eq rfl (.tmp 145) (.tmp 151) _ rfl _ _ rfl rfl HR2.out ?_))
             all_goals
              go_wp2_with fail
              exact ⟨⟨k + 1,_,_,_,_,_,_,_,_,_,_,_,_,rfl,by rw [HS1'.out];simp,by go_num,hlk,by rw [HS1'.out];exact HS7.out⟩,by simp [intOf];omega⟩
            | false =>
             have HRE2:Hid (f.rep = false):=HFRE.out.symm
             obtain ⟨a5,n5,c5,w7,hr,hS7⟩:=HM.out.join_push HSZ.out H17.out HRE2.out (HPV.out k).1 HVL.out (by rw [HVB.out];exact HBX.out) (by rw [HVB.out];exact HPL.out)
             have HR2:=hid hr
             have HS7:=hid hS7
             clear hr hS7
             go_wp2_with (first | (go_at_call 39;refine (ref06_Number 17 _).mono ?_;rintro e w' ⟨rfl,rfl⟩;rw [HNU.out]) | (at_builtin;refine wpList_append_eq rfl _ _ _ rfl _ _ rfl rfl HR2.out ?_))
             exact ⟨⟨k + 1,_,_,_,_,_,_,_,_,_,_,_,_,rfl,by rw [HS1'.out];simp,by go_num,hlk,by rw [HS1'.out];exact HS7.out⟩,by simp [intOf];omega⟩
           ·
            have H17:Hid (f.kind ≠ 17):=by rw [← HFKI.out];exact h17
            have hkb:(fki == 17) = false:=by simpa using h17
            have v1:=HM.out.2.1.cell 2 _ rfl
            have hcv:=HBX.out.str
            obtain ⟨a5,n5,c5,w7,hr,hB7,hS7⟩:=HM.out.text_push HSZ.out HNF.out H17.out HXR.out (HPV.out k).1 HVL.out HVB.out
            have q1:=hB7.cell 2 _ rfl
            have q2:=hB7.free 2
            have q3:=hB7.lt
            have HR2:=hid hr
            have HS7:=hid hS7
            clear hr hS7 hB7 h17
            go_wp2_with (first | (go_at_call 39;refine (ref06_Number fki _).mono ?_;rintro e w' ⟨rfl,rfl⟩;rw [HNU.out]) | (at_builtin;refine wpList_append_eq rfl _ _ _ rfl _ _ rfl rfl HR2.out ?_))
            exact ⟨⟨k + 1,_,_,_,_,_,_,_,_,_,_,_,_,rfl,by rw [HS1'.out];simp,by go_num,hlk,by rw [HS1'.out];exact HS7.out⟩,by simp [intOf];omega⟩
      ·
       have hbn:(xk != (q:Int)) = true:=by simpa using hxq
       have hbe:(xk == (q:Int)) = false:=by simpa using hxq
       have HS1':Hid (xs (k + 1) = xs k):=by have:=HS1.out;rw [if_neg hxq] at this;exact this
       go_wp2_with fail
       go_quiet (fail)
       go_wp2_with fail
       go_roundw
       case rel => exact ⟨k + 1,a0,n0,c0,a1,n1,c1,a2,n2,c2,a3,n3,c3,rfl,by rw [HS1'.out],by go_num,hlk,by rw [HS1'.out];exact HJ.out.drewN _⟩
       case measure => simp [intOf];omega
     ·
      obtain rfl:k = an:=by omega
      go_wp2_with fail
      go_meet
      case rel => exact ⟨_,_,_,_,_,_,_,_,_,_,_,_,rfl,rfl,HJ⟩
   case rest =>
    as_aux_lemma =>
     obtain ⟨a0,n0,c0,a1,n1,c1,a2,n2,c2,a3,n3,c3,rfl,rfl,HJ⟩:=hcut
     obtain ⟨k2,gO,hfF,hbw⟩:=HK5.out wc HJ.out.1
     have f2:=hfF.cell 2 _ rfl
     have f3:=hfF.cell 3 _ rfl
     clear k2 gO hbw hfF
     go_upto_region 30 with fail
     go_cut [16,171] from 161 to 170 (fun s16 s171 wx => s171 = .bool (!decide (xs an = []) && (decide (fki = 17) && !fre)) ∧ Hid (OfSt W5 F s d f l (xs an) wx (.slice a0 n0 c0) (.slice a1 n1 c1) (.slice a2 n2 c2) (.slice a3 n3 c3)))
     case first =>
      by_cases hne:xs an = []
      ·
       have hneb:decide (xs an = []) = true:=by simpa using hne
       rw [hneb]
       go_wp2_with fail
       go_meet
       case rel => exact ⟨by rw [hneb];rfl,HJ⟩
      ·
       have hneb:decide (xs an = []) = false:=by simpa using hne
       rw [hneb]
       by_cases h17:fki = 17
       ·
        subst h17
        cases fre with
        | true =>
         go_wp2_with fail
         go_meet
         case rel => exact ⟨by rw [hneb];rfl,HJ⟩
        | false =>
         go_wp2_with fail
         go_meet
         case rel => exact ⟨by rw [hneb];rfl,HJ⟩
       ·
        have hkb:(fki == 17) = false:=by simpa using h17
        have hkd:decide (fki = 17) = false:=by simpa using h17
        go_wp2_with fail
        go_meet
        case rel => exact ⟨by rw [hneb,hkd];rfl,HJ⟩
     case rest =>
      as_aux_lemma =>
       obtain ⟨rfl,HJ⟩:=hcut
       have HXR:Hid (∀ x ∈ xs an,x.run = true → knumber f.kind = true):=by
        intro x hx hr;rw [HXA.out] at hx;exact (HFR.out.run x hx hr).2
       have HFVQ:Hid (FV (q:Int) = fieldV (tsub s d) f l (xs an)):=by
        rw [HFV.out,HXA.out,HF.out];rfl
       go_upto_if 171 with fail
       go_cut [171] from 172 to 178 (fun s171 wx => ∃ (a1:Option Addr) (n1 c1:Nat) (a2:Option Addr) (n2 c2:Nat) (a3:Option Addr) (n3 c3:Nat),Hid (Below (F + 1) W5 wx ∧ Blk wx (F + 1) [.int .i64 f.number,.slice a1 n1 c1,.slice a2 n2 c2,.slice a3 n3 c3] 93 ∧ Apart 0 (F + 1 + 1) wx fun w2 => ValP' d w2 [.int .i64 f.number,.slice a1 n1 c1,.slice a2 n2 c2,.slice a3 n3 c3] (FV (q:Int))))
       case first =>
        by_cases hcd:(!decide (xs an = []) && (decide (fki = 17) && !fre)) = true
        ·
         have hcd2:xs an ≠ [] ∧ fki = 17 ∧ fre = false:=by
          simp only [Bool.and_eq_true,Bool.not_eq_true',decide_eq_false_iff_not,decide_eq_true_eq] at hcd;exact ⟨hcd.1,hcd.2.1,hcd.2.2⟩
         obtain ⟨hne,h17,hre⟩:=hcd2
         have h17':f.kind = 17:=by rw [← HFKI.out];exact h17
         have hre':f.rep = false:=by rw [← HFRE.out];exact hre
         obtain ⟨g1,g2,-,g4⟩:=HJ.out.2.2.2.1 h17'
         obtain ⟨g3,hown⟩:=g4 hre'
         obtain ⟨k2,-,hfF,hbw⟩:=HK5.out wc HJ.out.1
         have f5:=hfF.cell 5 _ rfl
         have h1:=HPV.out an
         have hjb:=join_bound (l:=l) h1.1
         have hjl:((xs an).flatMap (vbytes l)).length ≤ 1099511627776:=by have:=HL.out;omega
         have HC2:=HCALL.out.at (W:=wc) (v:=.slice a0 n0 c0) (b:=(xs an).flatMap (vbytes l)) (HC.out.trans (hbw.mono HC.out.size)) (hown.bytes (by omega)) hjl (by rw [HXA.out] at hne ⊢;exact (HFR.out.sub h17').2 hre' hne) HFOF.out
         have HSZ:Hid (F + 1 + 1 ≤ wc.heap.size):=by have:=HJ.out.1.size;have:=HZ5.out;show _ ≤ _;omega
         have HNE:=hid hne
         have H17:=hid h17'
         have HRF:=hid hre'
         have HG:=hid (show ((Value.slice a1 n1 c1 = noneS) ∧ (Value.slice a2 n2 c2 = noneS)) from ⟨g1,g2⟩)
         have HRUNF:Hid (∀ x ∈ xs an,x.run = false):=fun x hx => by
          cases hr:x.run with
          | false => rfl
          | true => have:=HXR.out x hx hr;rw [h17'] at this;cases this
         rw [hcd]
         clear hne h17 hre h17' hre' g1 g2 g4 g3 hown k2 hfF hbw h1 hjb hjl hcd
         go_wp2_with ((go_at_call 23;refine HC2.out.mono ?_;rintro e w1 ⟨u1,u2,y,ho,hy,rfl,hbm,hap⟩;have hB1:=HJ.out.2.1.below hbm;have q1:=hB1.cell 3 _ rfl;have q2:=hB1.free 3;have q3:=hB1.lt;have hS6:=hid (HJ.out.done1 H17.out HRF.out HNE.out HRUNF.out HNR.out HSZ.out hbm hy hap);clear hy hbm hap hB1 ho))
         go_meet
         case rel =>
          obtain ⟨h1,h2,h3⟩:=hS6.out _ rfl
          refine ⟨a1,n1,c1,a2,n2,c2,_,_,_,h1,h2,?_⟩
          rw [HFVQ.out,HG.out.1,HG.out.2]
          exact h3
        ·
         have hcf:(!decide (xs an = []) && (decide (fki = 17) && !fre)) = false:=by simpa using hcd
         rw [hcf]
         go_wp2_with fail
         go_meet
         case rel =>
          refine ⟨a1,n1,c1,a2,n2,c2,a3,n3,c3,HJ.out.1,HJ.out.2.1,?_⟩
          have h1:=HPV.out an
          rw [HFVQ.out]
          refine HJ.out.2.2.done HXR.out h1.1 (by have:=HL.out;omega) (by have:=HL.out;omega) HNR.out (fun g1 g2 => ?_)
          rw [← HFKI.out] at g1
          rw [← HFRE.out] at g2
          rw [g1,g2] at hcf
          simpa using hcf
       case rest =>
        as_aux_lemma =>
         obtain ⟨a1,n1,c1,a2,n2,c2,a3,n3,c3,HV7⟩:=hcut
         have hB7:Below wr.heap.size wr wc:=hb5.out.trans (HV7.out.1.mono (by rw [← HFB.out];omega))
         obtain ⟨hmany,hb1',hb2',hb3'⟩:=val_many HV7.out.2.2.here
         obtain ⟨mn,HMN⟩:∃ mn,Hid (mn = n1 + n2 + n3):=⟨_,rfl⟩
         have HMC:=hid (ref14_Many f.number a1 a2 a3 n1 n2 n3 c1 c2 c3 hb1' hb2' hb3' wc)
         rw [← HMN.out] at HMC hmany
         have hmn3:mn ≤ 422212465065984:=by rw [HMN.out];omega
         have HMANY:=hid hmany
         have v0:=HV7.out.2.1.cell 0 _ rfl
         have v1:=HV7.out.2.1.cell 1 _ rfl
         have v2:=HV7.out.2.1.cell 2 _ rfl
         have v3:=HV7.out.2.1.cell 3 _ rfl
         have HB7:=hid hB7
         have hOw:O ≤ wr.heap.size:=by have:=HI.out.1.size;have:=HO.out;omega
         have HOW:=hid hOw
         have HVST:Hid (vals (i + 1) = if 0 < many (FV (q:Int)) then vals i ++ [FV (q:Int)] else vals i):=by
          rw [Hid,HVALS.out]
          simp only
          rw [List.take_add_one,HOI.out,List.map_append,List.filter_append]
          by_cases h:0 < many (FV (q:Int))
          ·
           rw [if_pos h];simp [h]
          ·
           rw [if_neg h];simp [h]
         have hxX:Xb < wr.heap.size:=by have:=HXL.out;omega
         clear hB7 hb1' hb2' hb3' hOw hmany
         by_cases hm0:0 < mn
         ·
          have HM0:=hid hm0
          have hgt:decide ((0:Int) < (mn:Int)) = true:=by simpa using hm0
          go_wp2_with (first | (go_at_call 41;refine HMC.out.mono ?_;rintro e w8 ⟨rfl,hb8⟩;have p0:=below_keeps hb8 _ _ v0;have p1:=below_keeps hb8 _ _ v1;have p2:=below_keeps hb8 _ _ v2;have p3:=below_keeps hb8 _ _ v3;have hB8:=HB7.out.trans (hb8.mono HB7.out.size);have hx8:Blk w8 Xb [.slice xa xn xc,.slice none 0 0] 78:=HI.out.2.1.below hB8;obtain ⟨a9,c9,w9,hr9,hO9,hB9a,hB9⟩:=RowsOwn.step HI.out.2.2.2.2 hB8 (by decide) (Nat.zero_le _) HOW.out HI.out.2.2.1.symm 76 _ 80 Tryz.underlying76 info_rval rfl #[.int .i64 f.number,.slice a1 n1 c1,.slice a2 n2 c2,.slice a3 n3 c3] rfl (by intro u hu;simp at hu;rcases hu with rfl | rfl | rfl | rfl <;> rfl) (FV (q:Int)) ((HV7.out.2.2.later hb8).mono (by rw [← HFB.out];omega)) (by have:=HI.out.2.2.2.1;have:=HFN.out;omega) (by decide);have x8:=hx8.cell 0 _ rfl;have hx9:Blk w9 Xb [.slice xa xn xc,.slice none 0 0] 78:=(hB9.block Xb HXL.out).trans HI.out.2.1;have x9:=hx9.cell 0 _ rfl;have x9f:=hx9.free 0;have x9l:=hx9.lt;have HR9:=hid hr9;have HO9:=hid hO9;have HB9:=hid hB9;have HX9:=hid hx9;clear hr9 hO9 hB9 hB9a hx8 hx9 hb8 hB8) | (at_builtin;refine wpList_append_eq rfl _ _ _ rfl _ _ rfl rfl HR9.out ?_))
          refine ⟨⟨i + 1,a9,xn + 1,c9,by go_num,hlt,?_⟩,by simp [intOf];omega⟩
          have hv:vals (i + 1) = vals i ++ [FV (q:Int)]:=by rw [HVST.out,if_pos (by rw [← HMANY.out];exact HM0.out)]
          refine ⟨grown_grown (grown_over HI.out.1 HO.out HB9.out) (cell_grown _ _ _),by simpa using HX9.out.set 0 (.slice a9 (xn + 1) c9),by rw [hv,List.length_append,← HI.out.2.2.1];rfl,by have:=HI.out.2.2.2.1;omega,?_⟩
          rw [hv]
          refine HO9.out.later (fun b _ hc => Below.heap_setCell _ _ _ b ?_) (by simp)
          show b ≠ Xb
          have:=HXL.out
          omega
         ·
          have HM0:=hid hm0
          have hgt:decide ((0:Int) < (mn:Int)) = false:=by simpa using hm0
          go_wp2_with ((go_at_call 41;refine HMC.out.mono ?_;rintro e w8 ⟨rfl,hb8⟩;have hB8:=hid (HB7.out.trans (hb8.mono HB7.out.size));clear hb8))
          refine ⟨⟨i + 1,xa,xn,xc,by go_num,hlt,?_⟩,by simp [intOf];omega⟩
          have hv:vals (i + 1) = vals i:=by rw [HVST.out,if_neg (by rw [← HMANY.out];exact HM0.out)]
          refine ⟨grown_over HI.out.1 HO.out (hB8.out.mono HOW.out),HI.out.2.1.below hB8.out,by rw [hv];exact HI.out.2.2.1,by have:=HI.out.2.2.2.1;omega,?_⟩
          rw [hv]
          exact HI.out.2.2.2.2.below hB8.out
  ·
   obtain rfl:i = fn:=by omega
   obtain ⟨U,HU⟩:∃ U,Hid (U = wr.heap.size):=⟨_,rfl⟩
   obtain ⟨wE,HWE⟩:∃ wE,Hid (wE = wr):=⟨_,rfl⟩
   obtain ⟨unk,HUNK⟩:∃ unk:Nat → List (List UInt8),Hid (unk = fun k => ((all.take k).filter fun x => decide (x.k < 0)).map fun x => part l x.r.start x.r.to):=⟨_,rfl⟩
   have HI':=HI
   rw [← HWE.out] at HI' HU
   have hxl:Xb < wr.heap.size:=HI.out.2.1.lt
   clear k2 hord hbX hbw
   go_wp2_with fail
   go_loopw [23] (fun v23 wu => ∃ (k:Nat) (ua:Option Addr) (un uc:Nat),v23 = .int .i64 (k:Int) ∧ k ≤ an ∧ Hid (wE.grownBy wu (some Xb) ∧ Blk wu Xb [.slice xa xn xc,.slice ua un uc] 78 ∧ StrsOwn wu U (.slice ua un uc) (unk k))) (fun v23 _ => an - (intOf v23).toNat)
   case atStart => exact ⟨0,none,0,0,rfl,by omega,by rw [HWE.out];exact grown_refl _ _,HI.out.2.1,by rw [HUNK.out];exact World.ownsRow_nil _ _ _ _⟩
   case round =>
    clear HI hxl
    obtain ⟨k,ua,un,uc,rfl,hk,HJ⟩:=hrel
    obtain ⟨k2,-,hbX,hbw⟩:=HK.out wr (grown_grown HI'.out.1 HJ.out.1)
    by_cases hlk:k < an
    ·
     obtain ⟨x,hx⟩:∃ x,all[k]? = some x:=⟨_,List.getElem?_eq_getElem (by rw [← HAN.out];exact hlk)⟩
     have hst:unk (k + 1) = if x.k < 0 then unk k ++ [part l x.r.start x.r.to] else unk k:=by
      rw [HUNK.out]
      simp only
      rw [List.take_add_one,hx,List.filter_append,List.map_append]
      by_cases h:x.k < 0
      ·
       rw [if_pos h];simp [h]
      ·
       rw [if_neg h];simp [h]
     obtain ⟨vb,vo,haa,hvc⟩:=views_cells HROWS.out (by rw [← HAN.out];omega) k x hx
     subst haa
     have n2':=k2 _ _ (hvc 2 _ rfl)
     have n4':=k2 _ _ (hvc 4 _ rfl)
     have n5':=k2 _ _ (hvc 5 _ rfl)
     have hvok:=HVS.out x (by rw [← HFS.out,← HALL.out];exact List.mem_of_getElem? hx)
     obtain ⟨hv1,hv2,hv3,-⟩:=hvok.facts
     have HST:=hid hst
     have HVC:=hid hvc
     obtain ⟨⟨x1,x2,x3,x4,x5⟩,xk,xrun⟩:=x
     simp only at n2' n4' n5' hv1 hv2 hv3
     clear hvc hst hx k2 hvok
     by_cases hxk:xk < 0
     ·
      have HST':Hid (unk (k + 1) = unk k ++ [part l x3 x5]):=by have:=HST.out;rw [if_pos hxk] at this;exact this
      have hcap:ln ≤ vcap:=by obtain ⟨_,_,a',c',e',h3,_⟩:=HV.out;cases e';exact h3
      have hsl:=slice_lh_run under_bytes size_u8 va ln vcap x3 x5 (by omega) (by have:=HL.out;omega)
      have hxb:=HV.out.sub HL.out x3 x5 (by omega) (by rw [HL.out];omega)
      obtain ⟨sv,HSV⟩:∃ sv,Hid (sliced va x3 x5 vcap 1 = sv):=⟨_,rfl⟩
      rw [HSV.out] at hsl hxb
      have hbv:Bytes wr.drew sv (part l x3 x5):=(hxb.below hbw).below (Below.refl wr.heap.size wr).drew
      have hcv:=hbv.str
      have q1:=HJ.out.2.1.cell 1 _ rfl
      have q2:=HJ.out.2.1.free 1
      have q3:=HJ.out.2.1.lt
      have hOw:StrsOwn wr.drew U (.slice ua un uc) (unk k):=HJ.out.2.2
      have hUl:(unk k).length ≤ k:=by
       rw [HUNK.out];simp only [List.length_map]
       have h1:=List.length_filter_le (fun x:VW => decide (x.k < 0)) (all.take k)
       rw [List.length_take] at h1
       omega
      obtain ⟨v9,w9,hr9,hO9,hg9⟩:=hOw.one (part l x3 x5) (by omega) (by have:=HJ.out.1.size;have:=HU.out;show U ≤ wr.heap.size;omega)
      obtain ⟨a9,c9,rfl⟩:=hO9.form
      obtain ⟨l9,HL9⟩:∃ n,Hid (n = (unk k ++ [part l x3 x5]).length):=⟨_,rfl⟩
      rw [← HL9.out] at hr9 hO9
      have hXU:Xb < U:=by have:=HI'.out.2.1.lt;have:=HU.out;omega
      have hx9:Blk w9 Xb [.slice xa xn xc,.slice ua un uc] 78:=(hg9.block Xb q3 (fun e => by have:=(World.ownsRow.lt hOw _ e.symm).1;omega)).trans HJ.out.2.1
      have x9:=hx9.cell 1 _ rfl
      have x9f:=hx9.free 1
      have x9l:=hx9.lt
      have HG9:Hid (wE.grownBy w9 (some Xb)):=by
       have hd:wE.grownBy wr.drew (some Xb):=grown_grown HJ.out.1 (below_grown (Below.refl wr.heap.size wr).drew _)
       refine ⟨hg9.os.trans hd.os,hg9.tape.trans hd.tape,hg9.output.trans hd.output,Nat.le_trans hd.size hg9.size,fun b hb hne => (hg9.block b (Nat.lt_of_lt_of_le hb hd.size) fun e => ?_).trans (hd.block b hb hne)⟩
       have:=(World.ownsRow.lt hOw _ e.symm).1
       have:=HU.out
       omega
      have HR9:Hid ((Builtin.append_ #[58,58] 58 #[.slice ua un uc,.slice (some ⟨wr.heap.size,0,none⟩) 1 1]).run Tryz.prog (wr.alloc (.cells #[.string ⟨(part l x3 x5).toArray⟩] 9)).drew = .ok (.slice a9 l9 c9) w9):=hr9
      have k0:wr.drew.cell? ⟨Xb,1,none⟩ = some (.slice ua un uc) ∧ wr.drew.cell? ⟨vb,vo + k * 7 + 2,none⟩ = some (.int .i64 (x3:Int)) ∧ wr.drew.cell? ⟨vb,vo + k * 7 + 4,none⟩ = some (.int .i64 (x5:Int)):=⟨q1,n2',n4'⟩
      have hka:=below_keeps ((Below.refl wr.heap.size wr).alloc (Nat.le_refl _) (.cells #[.string ⟨(part l x3 x5).toArray⟩] 9))
      have k1:(wr.alloc (.cells #[.string ⟨(part l x3 x5).toArray⟩] 9)).drew.cell? ⟨Xb,1,none⟩ = some (.slice ua un uc) ∧ (wr.alloc (.cells #[.string ⟨(part l x3 x5).toArray⟩] 9)).drew.cell? ⟨vb,vo + k * 7 + 2,none⟩ = some (.int .i64 (x3:Int)) ∧ (wr.alloc (.cells #[.string ⟨(part l x3 x5).toArray⟩] 9)).drew.cell? ⟨vb,vo + k * 7 + 4,none⟩ = some (.int .i64 (x5:Int)):=⟨hka _ _ q1,hka _ _ n2',hka _ _ n4'⟩
      have hvbl:vb < wr.heap.size:=World.block_lt_of_cell? wr _ n2'
      have hVB:vb < U → w9.heap[vb]? = wr.heap[vb]?:=fun h => hg9.block vb hvbl (fun e => by have:=(World.ownsRow.lt hOw _ e.symm).1;omega)
      have hvw2:vb < w2.heap.size:=World.block_lt_of_cell? w2 _ (HVC.out 2 _ rfl)
      have hvu:vb < U:=by have:=HU.out;have:=HI'.out.1.size;have:=HB23.out.size;have:=HO.out;omega
      have k3:w9.cell? ⟨Xb,1,none⟩ = some (.slice ua un uc) ∧ w9.cell? ⟨vb,vo + k * 7 + 2,none⟩ = some (.int .i64 (x3:Int)) ∧ w9.cell? ⟨vb,vo + k * 7 + 4,none⟩ = some (.int .i64 (x5:Int)):=⟨x9,(World.cell?_of_block (hVB hvu)).trans n2',(World.cell?_of_block (hVB hvu)).trans n4'⟩
      have HO9:=hid hO9
      have HX9:=hid hx9
      have HXU:=hid hXU
      obtain ⟨k01,k02,k03⟩:=k0
      obtain ⟨k11,k12,k13⟩:=k1
      obtain ⟨k31,k32,k33⟩:=k3
      clear hr9 hO9 hg9 hOw hUl hx9 hXU hxb hbv hVB hvbl hvw2 hvu hka
      go_wp2_with fail
      go_region_law (first | (refine step_append_eq rfl (.tmp 201) (.tmp 217) _ rfl _ _ rfl rfl HR9.out ?_))
      all_goals
       go_wp2_with fail
       refine ⟨⟨k + 1,a9,l9,c9,by go_num,hlk,grown_grown HG9.out (cell_grown _ _ _),by simpa using HX9.out.set 1 (.slice a9 l9 c9),?_⟩,by simp [intOf];omega⟩
       rw [HST'.out,StrsOwn,← HL9.out]
       have h9:=HO9.out
       rw [StrsOwn,← HL9.out] at h9
       refine row_keep h9 fun b _ hb _ => Below.heap_setCell _ _ _ b ?_
       show b ≠ Xb
       have:=HXU.out
       omega
     ·
      have HST':Hid (unk (k + 1) = unk k):=by have:=HST.out;rw [if_neg hxk] at this;exact this
      go_wp2_with fail
      go_roundw
      case rel => exact ⟨k + 1,ua,un,uc,by go_num,hlk,by rw [HST'.out];exact HJ.out⟩
      case measure => simp [intOf];omega
    ·
     obtain rfl:k = an:=by omega
     have r0:=HJ.out.2.1.cell 0 _ rfl
     have r1:=HJ.out.2.1.cell 1 _ rfl
     have hrl:=HJ.out.2.1.lt
     have x0:=hbX.cell 0 _ rfl
     have x1:=hbX.cell 1 _ rfl
     have xf0:=hbX.free 0
     have xf1:=hbX.free 1
     have hxl:=hbX.lt
     have HBW:=hid hbw
     rw [HX.out] at x0 x1 xf0 xf1 hxl
     clear hbX hbw k2
     go_wp2_with fail
     refine bodyPost_ret (v:=.agg #[.slice xa xn xc,.slice ua un uc]) ?_ rfl ?_
     ·
      simp [results,Tryz.results23,go_sem,x0,x1]
     ·
      rw [HQ.out]
      have hXb:X < Xb:=hXX
      have HFX:Hid (∀ b,b ≠ X → (((wr.setCell ⟨X,0,none⟩ (.slice xa xn xc)).setCell ⟨X,1,none⟩ (.slice ua un uc))).heap[b]? = wr.heap[b]?):=fun b hb => by
       rw [Below.heap_setCell _ _ _ b (by show b ≠ X;exact hb),Below.heap_setCell _ _ _ b (by show b ≠ X;exact hb)]
      rw [HX.out] at HFX
      refine ⟨_,rfl,(HBW.out.setCell (Nat.le_refl _) _).setCell (Nat.le_refl _) _,fun w9 hw9 => ?_⟩
      have hag:∀ b,O ≤ b → b < wr.heap.size → w9.heap[b]? = wr.heap[b]?:=fun b hb hlt => by
       have hXO:=HXL.out
       refine (hw9 b (by simpa using hlt) (.inr ?_)).trans (HFX.out b ?_)
       ·
        rw [← HX.out];omega
       ·
        rw [← HX.out];omega
      have hE:∀ b,b < wE.heap.size → (b < 0 ∨ O ≤ b) → w9.heap[b]? = wE.heap[b]?:=fun b hlt hc => by
       have h1:O ≤ b:=by omega
       have hXO:=HXL.out
       exact (hag b h1 (Nat.lt_of_lt_of_le hlt HJ.out.1.size)).trans (HJ.out.1.block b hlt (fun e => by injection e with e;omega))
      have hvl:=HI'.out.2.2.2.2.at (by have:=HI'.out.2.2.1;have:=HI'.out.2.2.2.1;omega) hE
      have hU:O ≤ U:=by have:=HU.out;have:=HI'.out.1.size;have:=HO.out;omega
      have hul:StrsAt w9 (.slice ua un uc) (unk k):=by
       have hk:(unk k).length ≤ k:=by
        rw [HUNK.out];simp only [List.length_map]
        have h1:=List.length_filter_le (fun x:VW => decide (x.k < 0)) (all.take k)
        rw [List.length_take] at h1
        omega
       refine StrsOwn.strs (base:=U) (row_keep HJ.out.2.2 fun b _ hb he => hag b (by omega) (Array.getElem?_eq_some_iff.1 he).1) (by omega) fun t ht => ?_
       rw [HUNK.out] at ht
       obtain ⟨x,-,rfl⟩:=List.mem_map.1 ht
       unfold part
       rw [List.length_take,List.length_drop]
       have:=HL.out
       omega
      have htf:M.vals (tof s d m l) = vals i ∧ M.unk (tof s d m l) = unk k:=by
       rw [tof_msg]
       refine ⟨?_,?_⟩
       ·
        show (msgOf (tsub s d) (s.getD m .zero).fields l).vals = _
        rw [HVALS.out,HFV.out,HALL.out,HFS.out]
        unfold msgOf
        simp only
        rw [List.take_of_length_le (by rw [sortedF_len,HFN.out,HFS.out];exact Nat.le_refl _)]
       ·
        show (msgOf (tsub s d) (s.getD m .zero).fields l).unk = _
        rw [HUNK.out,HALL.out,HFS.out]
        unfold msgOf
        simp only
        rw [List.take_of_length_le (by rw [HAN.out,HALL.out,HFS.out];exact Nat.le_refl _)]
      refine ⟨_,_,rfl,?_,?_⟩
      ·
       rw [htf.1];exact hvl
      ·
       rw [htf.2];exact hul
theorem ref14_Of {w0:World} {sv:Value} {s:List Mes} (hS:SchemaAt w0 sv s) (hs:sright s = true):∀ d,ROfOk w0 sv s d
 | 0 => ref14_Of_step hS hs 0 fun _ h => by cases h
 | d + 1 => ref14_Of_step hS hs (d + 1) fun d' h => by
  obtain rfl:d = d':=by omega
  exact ref14_Of hS hs d
end Go.Proofs.YtphkmpnahnakaaaGreat
