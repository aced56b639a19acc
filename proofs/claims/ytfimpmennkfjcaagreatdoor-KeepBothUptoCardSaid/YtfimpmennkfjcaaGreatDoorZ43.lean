/- keep.has: wayHas. At most 2^30 bytes. darningref11.Is; what a check without a fault tells. Bytes of at most 2 to the 40. keep.Has: hasC. At most 2^30 bytes, a path of at most 2^39. darningref10.All: all views of bytes (vall). At most 2^40 bytes. -/
import Derived.Test.YtfimpmennkfjcaaGreatDoorZ14
import Derived.Test.YtfimpmennkfjcaaGreatDoorZ25
import Derived.Test.YtfimpmennkfjcaaGreatDoorZ26
import Derived.Test.YtfimpmennkfjcaaGreatDoorZ40
import Derived.Test.YtfimpmennkfjcaaGreatDoorZ42
import Derived.StillTailTactics
import Derived.Deep.RegionHeld3
import Derived.Deep.DeepCutAuto
namespace Go.Proofs.YtfimpmennkfjcaaGreatDoor
open Go.RowKit Go.Shelf
def KHasOk (w0:World) (sv:Value) (s:List Mes) (way:List Int):Prop:=∀ (m d:Nat) (w:World) (v wv:Value) (l:List UInt8),m < s.length → Below w0.heap.size w0 w → Bytes w v l → l.length ≤ 1073741824 → IntsAt w wv way → (∃ ns,namesW s (m:Int) way = some ns) → (vmsg s d m l).2 = 0 →
 Calls Tryz.prog 53 #[sv,.int .i64 (m:Int),v,wv] w fun e w' => e = .returned (.bool (wayHas s way m l)) ∧ Below w.heap.size w w'
theorem enter_has1 (args:Array Value) (w:World):(callFunc 81 args).run Tryz.prog w = .ok (.enter 81 args) w:=(enters_of Tryz.func81 (by kernel_rfl) rfl) args w
theorem size_i64 (w:World):(sizeOf 3).run Tryz.prog w = .ok 1 w:=by kernel_rfl
theorem ints_rest {w:World} {a:Option Addr} {n cap:Nat} {x:Int} {r:List Int} (h:IntsAt w (.slice a n cap) (x :: r)) (hn:n = r.length + 1) :
  ∃ a' c',(∀ W,(Instr.slice 56 (.slice a n cap) (some (.int .i64 1)) none none).run Tryz.prog W = .ok (.slice a' r.length c') W) ∧ IntsAt w (.slice a' r.length c') r:=by
 subst hn
 have hs:=Seg.sub h.1 1 (r.length + 1) (by omega) (by simp)
 have e:(List.take ((r.length + 1 - 1) * 1) (List.drop (1 * 1) (List.map intV (x :: r)))) = r.map intV:=by
  simp only [Nat.add_sub_cancel,Nat.mul_one,List.map_cons,List.drop_one,List.tail_cons]
  exact List.take_of_length_le (by simp)
 rw [e] at hs
 refine ⟨if cap = 1 then a else a.map (·.add (1 * 1)),cap - 1,fun W => ?_,?_,fun y hy => h.2 y (by simp [hy])⟩
 ·
  have:=slice_l_run (P:=Tryz.prog) Tryz.underlying56 size_i64 a (r.length + 1) cap 1 (by omega) W
  simpa [sliced] using this
 ·
  simpa [sliced] using hs
set_option maxRecDepth 100000 in
set_option maxHeartbeats 8000000 in
theorem has_fn {w0:World} {sv:Value} {s:List Mes} (hs:sright s = true) (hS0:SchemaAt w0 sv s) {n:Int} {r:List Int} (hr:r ≠ []) (hrec:KHasOk w0 sv s r) {m d:Nat} {w:World} {v wv:Value} {l:List UInt8} (hm:m < s.length) (hw:Below w0.heap.size w0 w) (hb:Bytes w v l) (hl:l.length ≤ 1073741824)
  (hW:IntsAt w wv (n :: r)) (hns:∃ ns,namesW s (m:Int) (n :: r) = some ns) {x:VW} (hx:ViewOk s d m l x) (hxn:(x.r.number:Int) = n) {X1 X2 X3 X4:Nat}
  (h1:w.cell? ⟨X1,0,none⟩ = some sv) (h2:w.cell? ⟨X2,0,none⟩ = some (.int .i64 (m:Int))) (h3:w.cell? ⟨X3,0,none⟩ = some v) (h4:w.cell? ⟨X4,0,none⟩ = some wv) :
  Calls Tryz.prog 81 #[viewV x.r x.k x.run,.pointer (some ⟨X1,0,none⟩),.pointer (some ⟨X2,0,none⟩),.pointer (some ⟨X3,0,none⟩),.pointer (some ⟨X4,0,none⟩)] w fun e w' =>
   e = .returned (.bool (wayHas s r ((s.getD m .zero).fields.getD x.k.toNat .zero).of.toNat (vbytes l x))) ∧ Below w.heap.size w w':=by
 obtain ⟨ns,hns⟩:=hns
 obtain ⟨q,d',o,hq,hql,ho,hos,hd,hv,hns'⟩:=way_field hs hm hx hns hxn hr
 rw [hq,Int.toNat_natCast,ho,Int.toNat_natCast]
 obtain ⟨g1,g2,g3,-⟩:=hx.facts
 obtain ⟨fs,HFS⟩:∃ fs,Hid (fs = (s.getD m .zero).fields):=⟨_,rfl⟩
 rw [← HFS.out] at hql ho
 have hS:=hS0.below hw
 obtain ⟨-,sa,sc,rfl,hat⟩:=hS.open
 obtain ⟨sb,so,fv,hsa,-,c0,c1,hF⟩:=hat m hm
 subst hsa
 rw [← HFS.out] at hF
 obtain ⟨-,fa,fc,rfl,hfat⟩:=hF.open
 obtain ⟨fb,fo,hfb,-,-,-,-,-,-,f5⟩:=hfat q hql
 subst hfb
 rw [ho] at f5
 obtain ⟨-,va,vc,rfl,-⟩:=hb.open
 obtain ⟨-,wa,wc,rfl,-⟩:=hW.open
 obtain ⟨ra,rc,hrs,hrW⟩:=ints_rest hW rfl
 obtain ⟨sn,HSN⟩:∃ n,Hid (n = s.length):=⟨_,rfl⟩
 obtain ⟨fn,HFN⟩:∃ n,Hid (n = fs.length):=⟨_,rfl⟩
 obtain ⟨ln,HLN⟩:∃ n,Hid (n = l.length):=⟨_,rfl⟩
 obtain ⟨rn,HRN⟩:∃ n,Hid (n = r.length):=⟨_,rfl⟩
 obtain ⟨wn,HWN⟩:∃ j,Hid (j = (n :: r).length):=⟨_,rfl⟩
 rw [← HSN.out] at h1 hm hrec
 rw [← HFN.out] at c1 hql
 rw [← HLN.out] at h3 hb
 rw [← HRN.out] at hrs hrW
 rw [← HWN.out] at h4 hrs
 obtain ⟨R,HR⟩:∃ R,Hid (R = wayHas s r o (vbytes l x)):=⟨_,rfl⟩
 rw [← HR.out]
 have hixs:=index_run Tryz.underlying23 size_mes rfl m hm (a:=some ⟨sb,so,none⟩) (cap:=sc)
 have hixf:=index_run Tryz.underlying65 size_fld rfl q hql (a:=some ⟨fb,fo,none⟩) (cap:=fc)
 have HRV:=hid (fun W (hW':Below w.heap.size w W) => record_Value (hb.below hW') x.r g2 g3)
 have hpl:(part l x.r.at' x.r.to).length ≤ 1073741824:=by rw [part_len l _ _ g2 g3];omega
 have hvb:vbytes l x = part l x.r.at' x.r.to:=rfl
 rw [hvb] at hv
 have HRC:Hid (∀ (W:World) (u:Value),Below w.heap.size w W → Bytes W u (part l x.r.at' x.r.to) → Calls Tryz.prog 53 #[.slice (some ⟨sb,so,none⟩) sn sc,.int .i64 (o:Int),u,.slice ra rn rc] W fun e w' => e = .returned (.bool R) ∧ Below W.heap.size W w'):=by
  intro W u hW' hu
  rw [HR.out,hvb]
  exact hrec o d' W u _ _ hos (hw.trans (hW'.mono hw.size)) hu hpl (hrW.below hW') hns' hv
 obtain ⟨⟨x1,x2,x3,x4,x5⟩,xk,xrun⟩:=x
 simp only at hq HRV HRC hpl
 obtain rfl:xk = (q:Int):=hq
 unfold viewV
 unfold Rec.val at HRV
 simp only at HRV ⊢
 obtain ⟨PL,HPL⟩:∃ PL,Hid (PL = part l x4 x5):=⟨_,rfl⟩
 rw [← HPL.out] at HRV HRC hpl
 have hl1:=World.block_lt_of_cell? w _ h1
 have hl2:=World.block_lt_of_cell? w _ h2
 have hl3:=World.block_lt_of_cell? w _ h3
 have hl4:=World.block_lt_of_cell? w _ h4
 obtain ⟨VB,HVB⟩:∃ b,Hid (b = w.heap.size):=⟨_,rfl⟩
 obtain ⟨W1,HW1⟩:∃ W,Hid (W = w.alloc (.cells #[.int .i64 x1,.int .i64 x2,.int .i64 x3,.int .i64 x4,.int .i64 x5,.int .i64 (q:Int),.bool xrun] 140)):=⟨_,rfl⟩
 have hb1:Below w.heap.size w W1:=by rw [HW1.out];exact (Below.refl _ _).alloc (Nat.le_refl _) _
 have hk1:Blk W1 VB [.int .i64 x1,.int .i64 x2,.int .i64 x3,.int .i64 x4,.int .i64 x5,.int .i64 (q:Int),.bool xrun] 140:=by rw [HW1.out,HVB.out];exact Blk.new w [.int .i64 x1,.int .i64 x2,.int .i64 x3,.int .i64 x4,.int .i64 x5,.int .i64 (q:Int),.bool xrun] _
 have hk:=below_keeps hb1
 have q0:W1.drew.cell? ⟨X1,0,none⟩ = some (.slice (some ⟨sb,so,none⟩) sn sc) ∧ W1.drew.cell? ⟨X2,0,none⟩ = some (.int .i64 (m:Int)) ∧ W1.drew.cell? ⟨X3,0,none⟩ = some (.slice va ln vc) ∧ W1.drew.cell? ⟨X4,0,none⟩ = some (.slice wa wn wc) ∧ W1.drew.cell? ⟨sb,so + m * 2 + 1,none⟩ = some (.slice (some ⟨fb,fo,none⟩) fn fc) ∧ W1.drew.cell? ⟨fb,fo + q * 6 + 5,none⟩ = some (.int .i64 (o:Int)) ∧ W1.drew.cell? ⟨VB,0,none⟩ = some (.int .i64 x1) ∧ W1.drew.cell? ⟨VB,1,none⟩ = some (.int .i64 x2) ∧ W1.drew.cell? ⟨VB,2,none⟩ = some (.int .i64 x3) ∧ W1.drew.cell? ⟨VB,3,none⟩ = some (.int .i64 x4) ∧ W1.drew.cell? ⟨VB,4,none⟩ = some (.int .i64 x5) ∧ W1.drew.cell? ⟨VB,5,none⟩ = some (.int .i64 (q:Int)):=
  ⟨hk _ _ h1,hk _ _ h2,hk _ _ h3,hk _ _ h4,hk _ _ c1,hk _ _ f5,hk1.cell 0 _ rfl,hk1.cell 1 _ rfl,hk1.cell 2 _ rfl,hk1.cell 3 _ rfl,hk1.cell 4 _ rfl,hk1.cell 5 _ rfl⟩
 have HB1:=hid hb1.drew
 have HPLL:=hid hpl
 have hkl:=hk1.lt
 clear hk h1 h2 h3 h4 hb hW hw hS hS0 hat c0 c1 hF hfat f5 hx hns hns' hv hrW hrec hs hos ho hd hr hxn HFS hb1 hk1 g1 g2 g3 hl hpl hl1 hl2 hl3 hl4 hvb
 go_enter Tryz.func81,Tryz.ntmps81
 go_upto_region 1 with fail
 rw [← HW1.out,← HVB.out]
 clear HW1 HVB hkl
 go_region_held3 (fun w' => w'.cell? ⟨X1,0,none⟩ = some (.slice (some ⟨sb,so,none⟩) sn sc) ∧ w'.cell? ⟨X2,0,none⟩ = some (.int .i64 (m:Int)) ∧ w'.cell? ⟨X3,0,none⟩ = some (.slice va ln vc) ∧ w'.cell? ⟨X4,0,none⟩ = some (.slice wa wn wc) ∧ w'.cell? ⟨sb,so + m * 2 + 1,none⟩ = some (.slice (some ⟨fb,fo,none⟩) fn fc) ∧ w'.cell? ⟨fb,fo + q * 6 + 5,none⟩ = some (.int .i64 (o:Int)) ∧ w'.cell? ⟨VB,0,none⟩ = some (.int .i64 x1) ∧ w'.cell? ⟨VB,1,none⟩ = some (.int .i64 x2) ∧ w'.cell? ⟨VB,2,none⟩ = some (.int .i64 x3) ∧ w'.cell? ⟨VB,3,none⟩ = some (.int .i64 x4) ∧ w'.cell? ⟨VB,4,none⟩ = some (.int .i64 x5) ∧ w'.cell? ⟨VB,5,none⟩ = some (.int .i64 (q:Int))) (first | (with_reducible exact q0) | (with_reducible exact q2) | (with_reducible exact q3) | go_keep) (first
  | (go_at_call 82;(with_reducible refine (HRV.out _ HB1.out).mono ?_);rintro e w2 ⟨u2,rfl,hO2,hb2⟩;have hbb:=below_step HB1.out hb2 HB1.out.size;have q2:w2.cell? ⟨X1,0,none⟩ = some (.slice (some ⟨sb,so,none⟩) sn sc) ∧ w2.cell? ⟨X2,0,none⟩ = some (.int .i64 (m:Int)) ∧ w2.cell? ⟨X3,0,none⟩ = some (.slice va ln vc) ∧ w2.cell? ⟨X4,0,none⟩ = some (.slice wa wn wc) ∧ w2.cell? ⟨sb,so + m * 2 + 1,none⟩ = some (.slice (some ⟨fb,fo,none⟩) fn fc) ∧ w2.cell? ⟨fb,fo + q * 6 + 5,none⟩ = some (.int .i64 (o:Int)) ∧ w2.cell? ⟨VB,0,none⟩ = some (.int .i64 x1) ∧ w2.cell? ⟨VB,1,none⟩ = some (.int .i64 x2) ∧ w2.cell? ⟨VB,2,none⟩ = some (.int .i64 x3) ∧ w2.cell? ⟨VB,3,none⟩ = some (.int .i64 x4) ∧ w2.cell? ⟨VB,4,none⟩ = some (.int .i64 x5) ∧ w2.cell? ⟨VB,5,none⟩ = some (.int .i64 (q:Int)):=⟨below_keeps hb2 _ _ q0.1,below_keeps hb2 _ _ q0.2.1,below_keeps hb2 _ _ q0.2.2.1,below_keeps hb2 _ _ q0.2.2.2.1,below_keeps hb2 _ _ q0.2.2.2.2.1,below_keeps hb2 _ _ q0.2.2.2.2.2.1,below_keeps hb2 _ _ q0.2.2.2.2.2.2.1,below_keeps hb2 _ _ q0.2.2.2.2.2.2.2.1,below_keeps hb2 _ _ q0.2.2.2.2.2.2.2.2.1,below_keeps hb2 _ _ q0.2.2.2.2.2.2.2.2.2.1,below_keeps hb2 _ _ q0.2.2.2.2.2.2.2.2.2.2.1,below_keeps hb2 _ _ q0.2.2.2.2.2.2.2.2.2.2.2⟩;have HB2:=hid (And.intro hbb hO2);clear hbb hO2 hb2)
  | (go_at_call 53;(with_reducible refine (HRC.out _ _ HB2.out.1 (HB2.out.2.bytes (by have:=HPLL.out;omega))).mono ?_);rintro e w3 ⟨rfl,hb3⟩;have q3:w3.cell? ⟨X1,0,none⟩ = some (.slice (some ⟨sb,so,none⟩) sn sc) ∧ w3.cell? ⟨X2,0,none⟩ = some (.int .i64 (m:Int)) ∧ w3.cell? ⟨X3,0,none⟩ = some (.slice va ln vc) ∧ w3.cell? ⟨X4,0,none⟩ = some (.slice wa wn wc) ∧ w3.cell? ⟨sb,so + m * 2 + 1,none⟩ = some (.slice (some ⟨fb,fo,none⟩) fn fc) ∧ w3.cell? ⟨fb,fo + q * 6 + 5,none⟩ = some (.int .i64 (o:Int)) ∧ w3.cell? ⟨VB,0,none⟩ = some (.int .i64 x1) ∧ w3.cell? ⟨VB,1,none⟩ = some (.int .i64 x2) ∧ w3.cell? ⟨VB,2,none⟩ = some (.int .i64 x3) ∧ w3.cell? ⟨VB,3,none⟩ = some (.int .i64 x4) ∧ w3.cell? ⟨VB,4,none⟩ = some (.int .i64 x5) ∧ w3.cell? ⟨VB,5,none⟩ = some (.int .i64 (q:Int)):=⟨below_keeps hb3 _ _ q2.1,below_keeps hb3 _ _ q2.2.1,below_keeps hb3 _ _ q2.2.2.1,below_keeps hb3 _ _ q2.2.2.2.1,below_keeps hb3 _ _ q2.2.2.2.2.1,below_keeps hb3 _ _ q2.2.2.2.2.2.1,below_keeps hb3 _ _ q2.2.2.2.2.2.2.1,below_keeps hb3 _ _ q2.2.2.2.2.2.2.2.1,below_keeps hb3 _ _ q2.2.2.2.2.2.2.2.2.1,below_keeps hb3 _ _ q2.2.2.2.2.2.2.2.2.2.1,below_keeps hb3 _ _ q2.2.2.2.2.2.2.2.2.2.2.1,below_keeps hb3 _ _ q2.2.2.2.2.2.2.2.2.2.2.2⟩;have HB3:=hid (below_step HB2.out.1 hb3 HB2.out.1.size);clear hb3))
 clear q0 q2 q3
 go_wp2_with fail
 go_ret
 exact ⟨rfl,HB3.out⟩
set_option maxRecDepth 100000 in
set_option maxHeartbeats 8000000 in
theorem keep_has_step {w0:World} {sv:Value} {s:List Mes} (hs:sright s = true) (hS0:SchemaAt w0 sv s) (n:Int) (r:List Int) (hrec:r ≠ [] → KHasOk w0 sv s r):KHasOk w0 sv s (n :: r):=by
 intro m d w v wv l hm hw hb hl hW hns hv
 obtain ⟨fs,HFS⟩:∃ fs,Hid (fs = (s.getD m .zero).fields):=⟨_,rfl⟩
 obtain ⟨all,HALL⟩:∃ all,Hid (all = (vall fs l).1.filter fun x => decide ((x.r.number:Int) = n)):=⟨_,rfl⟩
 have hok:=(vall_ok hv).2
 have HRES:Hid (wayHas s (n :: r) m l = all.any fun x => decide (r = []) || wayHas s r (fs.getD x.k.toNat .zero).of.toNat (vbytes l x)):=by
  rw [Hid,HALL.out,List.any_filter,HFS.out];rfl
 have HAOK:Hid (∀ x ∈ all,ViewOk s d m l x ∧ (x.r.number:Int) = n):=fun x hx => by
  rw [HALL.out,HFS.out] at hx
  obtain ⟨h1,h2⟩:=List.mem_filter.1 hx
  exact ⟨hok x h1,by simpa using h2⟩
 obtain ⟨R,HR⟩:∃ R,Hid (R = wayHas s (n :: r) m l):=⟨_,rfl⟩
 rw [← HR.out]
 have HLEN:Hid (all.length ≤ 1099511627776):=by
  rw [Hid,HALL.out]
  have:=List.length_filter_le (fun x:VW => decide ((x.r.number:Int) = n)) (vall fs l).1
  have:=vall_len fs l
  omega
 have hS:=hS0.below hw
 obtain ⟨-,sa,sc,rfl,hat⟩:=hS.open
 obtain ⟨sb,so,fv,hsa,-,c0,c1,hF⟩:=hat m hm
 subst hsa
 rw [← HFS.out] at hF
 obtain ⟨nm,HNM⟩:∃ nm,Hid (nm = (s.getD m .zero).name):=⟨_,rfl⟩
 rw [← HNM.out] at c0
 obtain ⟨-,fa,fc,rfl,-⟩:=hF.open
 obtain ⟨-,va,vc,rfl,-⟩:=hb.open
 obtain ⟨-,wa,wc,rfl,-,hwat⟩:=hW.open
 obtain ⟨-,wb,wo,hwa,g0⟩:=hwat 0 n rfl
 subst hwa
 rw [Nat.add_zero] at g0
 obtain ⟨sn,HSN⟩:∃ n,Hid (n = s.length):=⟨_,rfl⟩
 obtain ⟨fn,HFN⟩:∃ n,Hid (n = fs.length):=⟨_,rfl⟩
 obtain ⟨ln,HLN⟩:∃ n,Hid (n = l.length):=⟨_,rfl⟩
 obtain ⟨rn,HRN⟩:∃ n,Hid (n = r.length):=⟨_,rfl⟩
 have hwl:(n :: r).length = rn + 1:=by rw [HRN.out];rfl
 rw [hwl] at hW ⊢
 rw [← HSN.out] at hS0 hrec ⊢
 rw [← HFN.out] at hF c1
 rw [← HLN.out] at hb ⊢
 have hmn:m < sn:=by rw [HSN.out];exact hm
 have hrn:rn ≤ 140737488355328:=by have:=hW.open.1;rw [hwl] at this;omega
 obtain ⟨X,HX⟩:∃ X,Hid (X = w.heap.size):=⟨_,rfl⟩
 obtain ⟨W1,HW1⟩:∃ W,Hid (W = (((w.alloc (.cells #[.slice (some ⟨sb,so,none⟩) sn sc] 23)).alloc (.cells #[.int .i64 (m:Int)] 3)).alloc (.cells #[.slice va ln vc] 24)).alloc (.cells #[.slice (some ⟨wb,wo,none⟩) (rn + 1) wc] 56)):=⟨_,rfl⟩
 have hb1:Below w.heap.size w W1:=by rw [HW1.out];(repeat (first | with_reducible exact Below.refl _ _ | with_reducible refine Below.setCell ?_ (by first | omega | (simp;omega) | (simp;done)) _ | with_reducible refine Below.alloc ?_ (by first | omega | (simp;omega) | (simp;done)) _ | with_reducible refine below_drewN ?_ _ | with_reducible refine Below.drew ?_))
 have k1:Blk W1 X [.slice (some ⟨sb,so,none⟩) sn sc] 23:=by rw [HW1.out,HX.out];exact ((Blk.new w [.slice (some ⟨sb,so,none⟩) sn sc] _).alloc _).alloc _ |>.alloc _
 have k2:Blk W1 (X + 1) [.int .i64 (m:Int)] 3:=by rw [HW1.out,HX.out];exact ((Blk.new' _ [.int .i64 (m:Int)] _ _ (by simp)).alloc _).alloc _
 have k3:Blk W1 (X + 1 + 1) [.slice va ln vc] 24:=by rw [HW1.out,HX.out];exact (Blk.new' _ [.slice va ln vc] _ _ (by simp)).alloc _
 have k4:Blk W1 (X + 1 + 1 + 1) [.slice (some ⟨wb,wo,none⟩) (rn + 1) wc] 56:=by rw [HW1.out,HX.out];exact Blk.new' _ [.slice (some ⟨wb,wo,none⟩) (rn + 1) wc] _ _ (by simp)
 have HVO:=hid (view_Of (w:=W1.drew) ((hb.below hb1).drewN 1) (by omega) ((hF.below hb1).keep fun _ _ h => h) nm n)
 rw [← HALL.out] at HVO
 have HB1:=hid hb1
 have HK:=hid (And.intro k1 (And.intro k2 (And.intro k3 k4)))
 have HLL:=hid hl
 have HST:=hid (And.intro hw (And.intro hb (And.intro hW (And.intro hns hrec))))
 have x1:=k1.cell 0 _ rfl
 have x2:=k2.cell 0 _ rfl
 have x3:=k3.cell 0 _ rfl
 have x4:=k4.cell 0 _ rfl
 have xl:=k4.lt
 have hkr:=below_keeps hb1
 have c0':=hkr _ _ c0
 have c1':=hkr _ _ c1
 have g0':=hkr _ _ g0
 have hgl:=World.block_lt_of_cell? W1 _ g0'
 have hsl:=World.block_lt_of_cell? W1 _ c0'
 have hixs:=index_run Tryz.underlying23 size_mes rfl m hmn (a:=some ⟨sb,so,none⟩) (cap:=sc)
 have hixw:=index_0 Tryz.underlying56 size_i64 (a:=some ⟨wb,wo,none⟩) rfl (show 0 < rn + 1 by omega) (cap:=wc)
 have HS0:=hid (And.intro hs (And.intro hS0 hm))
 clear hs hS0 hw hb hl hW hns hv hok hS hat c0 c1 g0 hF hwat hb1 k1 k2 k3 k4 hkr hrec hwl
 go_enter Tryz.func53,Tryz.ntmps53
 go_upto_region 1 with fail
 rw [← HW1.out,← HX.out]
 go_still_tail 8,(by kernel_rfl)
 change wpList _ _ _ _ _ W1.drew
 go_wp2_with fail
 refine HVO.out.mono ?_
 rintro e w2 ⟨v2,base,rfl,hbase,hO2,hb2⟩
 obtain ⟨ea,ec,rfl⟩:=hO2.form
 obtain ⟨en,HEN⟩:∃ n,Hid (n = all.length):=⟨_,rfl⟩
 have HO2:=hid hO2
 rw [← HEN.out] at HO2 ⊢
 have hbb:Below W1.heap.size W1 w2:=(Below.refl W1.heap.size W1).drew.trans hb2
 have HB2:=hid (HB1.out.trans (hbb.mono HB1.out.size))
 have HBB:=hid hbb
 have k1:=HK.out.1.below hbb
 have k2:=HK.out.2.1.below hbb
 have k3:=HK.out.2.2.1.below hbb
 have k4:=HK.out.2.2.2.below hbb
 have x1:=k1.cell 0 _ rfl
 have x2:=k2.cell 0 _ rfl
 have x3:=k3.cell 0 _ rfl
 have x4:=k4.cell 0 _ rfl
 have HK2:=hid (And.intro k1 (And.intro k2 (And.intro k3 k4)))
 have xl:=k4.lt
 clear hO2 hb2 hbb k1 k2 k3 k4 c0' c1' g0' hgl hsl hbase
 by_cases hr0:r = []
 ·
  have hrn0:rn = 0:=by rw [HRN.out,hr0];rfl
  have hR:R = decide (0 < en):=by
   rw [HR.out,HRES.out,HEN.out,hr0]
   cases all with
   | nil => rfl
   | cons x t => simp
  subst hrn0
  have e1:((0:Int) < (en:Int)) = (0 < en):=by simp
  go_wp2_with fail
  go_ret
  exact ⟨by rw [hR];simp,HB2.out⟩
 ·
  have hrn0:rn ≠ 0:=by rw [HRN.out];intro h;exact hr0 (List.eq_nil_of_length_eq_zero h)
  have e1:(((rn:Int) + 1) == 1) = false:=by
   rw [Bool.eq_false_iff]
   intro h
   have:(rn:Int) + 1 = 1:=by simpa using h
   omega
  have hcl:∀ (x:VW) (wr:World),x ∈ all → Below w2.heap.size w2 wr → Calls Tryz.prog 81 (#[viewV x.r x.k x.run] ++ #[.pointer (some ⟨X,0,none⟩),.pointer (some ⟨X + 1,0,none⟩),.pointer (some ⟨X + 1 + 1,0,none⟩),.pointer (some ⟨X + 1 + 1 + 1,0,none⟩)]) wr fun e w' => e = .returned (.bool (wayHas s r (fs.getD x.k.toNat .zero).of.toNat (vbytes l x))) ∧ Below wr.heap.size wr w':=by
   intro x wr hx hbr
   have hbw:Below w.heap.size w wr:=HB2.out.trans (hbr.mono HB2.out.size)
   obtain ⟨h1,h2⟩:=HAOK.out x hx
   have:=has_fn HS0.out.1 HS0.out.2.1 hr0 (HST.out.2.2.2.2 hr0) HS0.out.2.2 (HST.out.1.trans (hbw.mono HST.out.1.size)) (HST.out.2.1.below hbw) HLL.out (HST.out.2.2.1.below hbw) HST.out.2.2.2.1 h1 h2 ((HK2.out.1.below hbr).cell 0 _ rfl) ((HK2.out.2.1.below hbr).cell 0 _ rfl) ((HK2.out.2.2.1.below hbr).cell 0 _ rfl) ((HK2.out.2.2.2.below hbr).cell 0 _ rfl)
   rw [HFS.out]
   exact this
  have HCF:=hid (containsFunc_views (views_read (own_views HO2.out) HLEN.out) 81 _ _ enter_has1 hcl)
  have hR:R = all.any (fun x => wayHas s r (fs.getD x.k.toNat .zero).of.toNat (vbytes l x)):=by
   rw [HR.out,HRES.out]
   simp [hr0]
  rw [← hR] at HCF
  clear hcl hR
  go_wp2_with fail
  refine HCF.out.mono ?_
  rintro e w3 ⟨rfl,hb3⟩
  have HB3:=hid (HB2.out.trans (hb3.mono HB2.out.size))
  clear hb3
  go_wp2_with fail
  go_ret
  exact ⟨rfl,HB3.out⟩
theorem keep_has {w0:World} {sv:Value} {s:List Mes} (hs:sright s = true) (hS0:SchemaAt w0 sv s):∀ (way:List Int),way ≠ [] → KHasOk w0 sv s way
 | [],h => absurd rfl h
 | n :: r,_ => keep_has_step hs hS0 n r fun h => keep_has hs hS0 r h
end Go.Proofs.YtfimpmennkfjcaaGreatDoor
namespace Go.Proofs.YtfimpmennkfjcaaGreatDoor
open Go.RowKit
theorem vcheck_ok {s:List Mes} {root d:Int} {l:List UInt8} (h:(vcheck s root l d).2 = 0):sright s = true ∧ (0 ≤ root ∧ root < s.length) ∧ (0 ≤ d ∧ d ≤ 64) ∧ (vmsg s d.toNat root.toNat l).2 = 0:=by
 unfold vcheck at h
 by_cases h0:argsCode s root d = 0
 ·
  rw [if_neg (by omega)] at h
  obtain ⟨h1,h2,h3,h4,h5⟩:=args_ok h0
  exact ⟨h1,⟨h2,h3⟩,⟨h4,h5⟩,h⟩
 ·
  rw [if_pos h0] at h;exact absurd h h0
end Go.Proofs.YtfimpmennkfjcaaGreatDoor
namespace Go.Proofs.YtfimpmennkfjcaaGreatDoor
open Go.RowKit
def hasC (s:List Mes) (root d:Int) (b p:List UInt8):Nat × Bool:=
 if argsCode s root d ≠ 0 then (argsCode s root d,false) else if (resolveC s root p).1 ≠ 0 then ((resolveC s root p).1,false) else if (vcheck s root b d).2 ≠ 0 then ((vcheck s root b d).2,false) else (0,wayHas s (resolveC s root p).2 root.toNat b)
theorem resolve_ok {w:World} {v:Value} {s:List Mes} (hS:SchemaAt w v s) {root:Int} {p:List UInt8} (h:(resolveC s root p).1 = 0) :
  sright s = true ∧ (∃ ns,namesW s root (resolveC s root p).2 = some ns) ∧ (resolveC s root p).2 ≠ [] ∧ (resolveC s root p).2.length ≤ 65 ∧ ∀ x ∈ (resolveC s root p).2,i64ok x:=by
 unfold resolveC at h ⊢
 by_cases h0:maskArgs s root = 0
 ·
  rw [if_neg (by omega)] at h ⊢
  have hs:sright s = true:=by
   rcases maskArgs_cases s root with e | e | e
   ·
    omega
   ·
    omega
   ·
    exact e.2.1
  cases hw:resolveW s root p with
  | none => rw [hw] at h;simp at h
  | some l =>
   obtain ⟨h1,-,h3⟩:=resolveW_names hs hw
   exact ⟨hs,⟨_,h1⟩,h3,resolveW_len hw,resolveW_ok hS hw⟩
 ·
  rw [if_pos h0] at h;exact absurd h h0
set_option maxRecDepth 100000 in
set_option maxHeartbeats 4000000 in
theorem keep_Has {w:World} {sv bv:Value} {s:List Mes} {b p:List UInt8} (hS:SchemaAt w sv s) (hb:Bytes w bv b) (hl:b.length ≤ 1073741824) (hp:p.length ≤ 549755813888) (root d:Int) :
  Calls Tryz.prog 25 #[sv,.int .i64 root,bv,.int .i64 d,strV p] w fun e w' => e = .returned (.tuple #[.bool (hasC s root d b p).2,.int .u8 ((hasC s root d b p).1:Nat)]) ∧ Below w.heap.size w w':=by
 have HS:=hid hS
 have HB:=hid hb
 have HL:=hid hl
 have HPL:=hid hp
 have HA:=hid (valid_Args hS root d)
 obtain ⟨-,sa,sc,rfl,-⟩:=hS.open
 obtain ⟨-,a,c,rfl,-⟩:=hb.open
 obtain ⟨sn,HSN⟩:∃ n,Hid (n = s.length):=⟨_,rfl⟩
 obtain ⟨n,HN⟩:∃ n,Hid (n = b.length):=⟨_,rfl⟩
 rw [← HSN.out] at HS HA ⊢
 rw [← HN.out] at HB ⊢
 obtain ⟨z,HZ⟩:∃ z,Hid (z = argsCode s root d):=⟨_,rfl⟩
 rw [← HZ.out] at HA
 obtain ⟨Q,HQ⟩:∃ Q:Ending → World → Prop,Hid (Q = fun e w' => e = .returned (.tuple #[.bool (hasC s root d b p).2,.int .u8 ((hasC s root d b p).1:Nat)]) ∧ Below w.heap.size w w'):=⟨_,rfl⟩
 rw [← HQ.out]
 obtain ⟨pv,HPV⟩:∃ pv,Hid (pv = (⟨p.toArray⟩:ByteArray)):=⟨_,rfl⟩
 have HMR:Hid (∀ W,Below w.heap.size w W → Calls Tryz.prog 51 #[.slice sa sn sc,.int .i64 root,.string pv] W (ResolvePost W (resolveC s root p))):=fun W hW => by
  have h:=mask_Resolve (HS.out.below hW) root p (by have:=HPL.out;omega)
  unfold strV at h
  rw [← HPV.out] at h
  exact h
 unfold strV
 rw [← HPV.out]
 clear hS hb hl hp
 by_cases hz:z = 0
 ·
  subst hz
  obtain ⟨cm,HCM⟩:∃ c,Hid (c = (resolveC s root p).1):=⟨_,rfl⟩
  obtain ⟨way,HWAY⟩:∃ c,Hid (c = (resolveC s root p).2):=⟨_,rfl⟩
  unfold ResolvePost at HMR
  rw [← HCM.out,← HWAY.out] at HMR
  go_enter Tryz.func25,Tryz.ntmps25
  go_wp2_with fail
  refine HA.out.mono ?_
  rintro e w1 ⟨rfl,hb1⟩
  have HB1:=hid hb1
  have HMR1:=hid (HMR.out w1 hb1)
  clear hb1 HMR
  go_wp2_with fail
  refine HMR1.out.mono ?_
  rintro e w2 ⟨v2,rfl,hI,hb2⟩
  obtain ⟨wa,wc,rfl⟩:=hI.form
  obtain ⟨wn,HWN⟩:∃ n,Hid (n = way.length):=⟨_,rfl⟩
  have HI:=hid hI
  rw [← HWN.out] at HI ⊢
  have HB2:=hid (HB1.out.trans (hb2.mono HB1.out.size))
  clear hI hb2 HMR1
  by_cases hcm:cm = 0
  ·
   subst hcm
   obtain ⟨g1,g2,g3,g4,g5⟩:=resolve_ok HS.out HCM.out.symm
   rw [← HWAY.out] at g2 g3 g4 g5
   have HVC:=hid (valid_Check (HS.out.below HB2.out) (HB.out.below HB2.out) root d)
   obtain ⟨at',HAT⟩:∃ a,Hid (a = (vcheck s root b d).1):=⟨_,rfl⟩
   obtain ⟨y,HY⟩:∃ a,Hid (a = (vcheck s root b d).2):=⟨_,rfl⟩
   rw [← HAT.out,← HY.out] at HVC
   have HC2:Hid (hasC s root d b p = if y ≠ 0 then (y,false) else (0,wayHas s way root.toNat b)):=by
    rw [Hid,hasC,if_neg (by rw [← HZ.out];simp),if_neg (by rw [← HCM.out];simp),← HY.out,← HWAY.out]
   have HG:=hid (And.intro g1 (And.intro g2 (And.intro g3 (And.intro g4 g5))))
   clear g1 g2 g3 g4 g5
   by_cases hy:y = 0
   ·
    subst hy
    obtain ⟨-,⟨h2,h3⟩,-,h6⟩:=vcheck_ok HY.out.symm
    obtain ⟨r,rfl⟩:∃ r:Nat,root = r:=⟨root.toNat,by omega⟩
    rw [Int.toNat_natCast] at h6
    have HVM:=hid (And.intro (show r < s.length by omega) h6)
    obtain ⟨R,HR⟩:∃ R,Hid (R = wayHas s way r b):=⟨_,rfl⟩
    have HC3:Hid (hasC s r d b p = (0,R)):=by rw [Hid,HC2.out,if_neg (by decide),Int.toNat_natCast,HR.out]
    clear h2 h3 h6
    go_wp2_with fail
    refine HVC.out.mono ?_
    rintro e w3 ⟨rfl,hb3⟩
    have HB3:=hid (HB2.out.trans (hb3.mono HB2.out.size))
    have hW3:=(HI.out.later hb3).ints (by have:=HG.out.2.2.2.1;have:=HWN.out;omega) HG.out.2.2.2.2
    have HKH:=hid (keep_has HG.out.1 HS.out way HG.out.2.2.1 r d.toNat w3 _ _ b HVM.out.1 HB3.out (HB.out.below HB3.out) HL.out hW3 HG.out.2.1 HVM.out.2)
    rw [← HR.out] at HKH
    clear hb3 hW3
    go_wp2_with fail
    refine HKH.out.mono ?_
    rintro e w4 ⟨rfl,hb4⟩
    have HE:Hid (Q (.returned (.tuple #[.bool R,.int .u8 0])) w4):=by
     rw [HQ.out,HC3.out]
     exact ⟨rfl,HB3.out.trans (hb4.mono HB3.out.size)⟩
    clear hb4
    go_wp2_with fail
    exact HE.out
   ·
    have e1:((y:Int) != 0) = true:=by simpa using hy
    have e2:((y:Int) == 0) = false:=by simpa using hy
    go_wp2_with fail
    refine HVC.out.mono ?_
    rintro e w3 ⟨rfl,hb3⟩
    have HE:Hid (Q (.returned (.tuple #[.bool false,.int .u8 (y:Nat)])) w3):=by
     rw [HQ.out,HC2.out,if_pos hy]
     exact ⟨rfl,HB2.out.trans (hb3.mono HB2.out.size)⟩
    clear hb3
    go_wp2_with fail
    exact HE.out
  ·
   have e1:((cm:Int) != 0) = true:=by simpa using hcm
   have e2:((cm:Int) == 0) = false:=by simpa using hcm
   have HE:Hid (Q (.returned (.tuple #[.bool false,.int .u8 (cm:Nat)])) w2):=by
    rw [HQ.out,hasC,if_neg (by rw [← HZ.out];simp),if_pos (by rw [← HCM.out];exact hcm),← HCM.out]
    exact ⟨rfl,HB2.out⟩
   go_wp2_with fail
   exact HE.out
 ·
  have e1:((z:Int) != 0) = true:=by simpa using hz
  have e2:((z:Int) == 0) = false:=by simpa using hz
  go_enter Tryz.func25,Tryz.ntmps25
  go_wp2_with fail
  refine HA.out.mono ?_
  rintro e w1 ⟨rfl,hb1⟩
  have HE:Hid (Q (.returned (.tuple #[.bool false,.int .u8 (z:Nat)])) w1):=by
   rw [HQ.out,hasC,if_pos (by rw [← HZ.out];exact hz),← HZ.out]
   exact ⟨rfl,hb1⟩
  clear hb1
  go_wp2_with fail
  exact HE.out
end Go.Proofs.YtfimpmennkfjcaaGreatDoor
namespace Go.Proofs.YtfimpmennkfjcaaGreatDoor
open Go.RowKit
theorem info_rview:(Tryz.prog.info? 80).map (fun i => (i.zero,i.size,i.bytes)) = some (some (.agg #[.int .i64 0,.int .i64 0,.int .i64 0,.int .i64 0,.int .i64 0,.int .i64 0,.bool false]),7,56):=by kernel_rfl
set_option maxRecDepth 100000 in
set_option maxHeartbeats 8000000 in
theorem ref10_All {w:World} {v vf:Value} {l:List UInt8} {fs:List Fld} (h:Bytes w v l) (hl:l.length ≤ 1099511627776) (hf:FieldsAt w vf fs) (nm:ByteArray) :
  Calls Tryz.prog 36 #[.agg #[.string nm,vf],v] w (AllPost w 80 (fun c => .int .i64 (c:Int)) (vall fs l)):=by
 have HLL:=hid hl
 obtain ⟨hlen,a,cap,rfl,-,-,-,-⟩:=h.open
 obtain ⟨-,fa,fc,rfl,-⟩:=hf.open
 obtain ⟨n,HN⟩:∃ n,Hid (n = l.length):=⟨_,rfl⟩
 obtain ⟨fn,HFN⟩:∃ n,Hid (n = fs.length):=⟨_,rfl⟩
 rw [← HN.out] at hlen HLL hl h ⊢
 rw [← HFN.out] at hf ⊢
 obtain ⟨w1,HW1⟩:∃ w1,Hid (w1 = w.alloc (.cells #[.string nm,.slice fa fn fc] 67)):=⟨_,rfl⟩
 have hb1:Below w.heap.size w w1:=by rw [HW1.out];(repeat (first | with_reducible exact Below.refl _ _ | with_reducible refine Below.setCell ?_ (by first | omega | (simp;omega) | (simp;done)) _ | with_reducible refine Below.alloc ?_ (by first | omega | (simp;omega) | (simp;done)) _ | with_reducible refine below_drewN ?_ _ | with_reducible refine Below.drew ?_))
 have hbx:Blk w1 w.heap.size [.string nm,.slice fa fn fc] 67:=by rw [HW1.out];exact Blk.new w [.string nm,.slice fa fn fc] _
 have HB1:=hid hb1
 have HBX:=hid hbx
 have HV:=hid (h.below hb1)
 have HF:=hid (hf.below hb1)
 obtain ⟨Q,HQ⟩:∃ Q:Ending → World → Prop,Hid (Q = AllPost w 80 (fun c => .int .i64 (c:Int)) (vall fs l)):=⟨_,rfl⟩
 rw [← HQ.out]
 clear h hf hb1 hbx
 go_enter Tryz.func36,Tryz.ntmps36
 go_wp2_with fail
 rw [← HW1.out]
 go_loopw [7,8,9,10] (fun v7 v8 _ _ wr => ∃ (pre:List VW) (oa:Option Addr) (m oc at':Nat),v7 = .slice oa m oc ∧ v8 = .int .i64 at' ∧ at' ≤ n ∧ m ≤ at' ∧ Hid (m = pre.length ∧ (∃ fuel,n - at' ≤ fuel ∧ vall fs l = glueV pre (vallGo fs l fuel at')) ∧ Below w1.heap.size w1 wr ∧ RowsOwn viewP 80 7 0 w1.heap.size wr (.slice oa m oc) pre)) (fun _ v8 _ _ _ => n - (intOf v8).toNat)
 case atStart => exact ⟨[],none,0,0,0,rfl,rfl,by omega,by omega,rfl,⟨l.length,by have:=HN.out;omega,by rw [glueV_nil];rfl⟩,Below.refl _ _,RowsOwn.nil _ _ _ _ _ _⟩
 case round =>
  obtain ⟨pre,oa,m,oc,at',rfl,rfl,hat,hmat,HI⟩:=hrel
  have hbx:=HBX.out.below HI.out.2.2.1
  have c0:=hbx.cell 0 _ rfl
  have c1:=hbx.cell 1 _ rfl
  have hsz:=hbx.lt
  have HBW:Hid (Below w.heap.size w wr):=HB1.out.trans (HI.out.2.2.1.mono HB1.out.size)
  clear hbx
  by_cases hlt:at' < n
  ·
   obtain ⟨r,k,run,c,HR⟩:∃ r k run c,Hid (vlook fs l at' = (r,k,run,c)):=⟨_,_,_,_,rfl⟩
   have hlk:=ref10_Look (HV.out.below HI.out.2.2.1) (HF.out.below HI.out.2.2.1) nm at'
   rw [HR.out] at hlk
   have HLK:=hid hlk
   obtain ⟨rn,rw',rs,ra,rt⟩:=r
   simp only [viewV] at HLK
   clear hlk
   by_cases hc:c = 0
   ·
    subst hc
    have hok:at' < rt ∧ rt ≤ n:=by
     have:=vlook_ok (fs:=fs) (l:=l) (i:=at') (by rw [HR.out])
     rw [HR.out,← HN.out] at this
     exact ⟨this.2.1,this.2.2.1⟩
    have HST:Hid (∃ fuel,n - rt ≤ fuel ∧ vall fs l = glueV (pre ++ [⟨⟨rn,rw',rs,ra,rt⟩,k,run⟩]) (vallGo fs l fuel rt)):=by
     obtain ⟨fuel,h1,h2⟩:=HI.out.2.1
     obtain ⟨f',rfl⟩:∃ f',fuel = f' + 1:=⟨fuel - 1,by omega⟩
     exact ⟨f',by omega,by rw [h2,glueV_step (by rw [← HN.out];exact hlt) HR.out]⟩
    go_wp2_with fail
    refine HLK.out.mono ?_
    rintro e w2 ⟨rfl,hb1⟩
    have hb2:=hb1.alloc hb1.size (.cells #[.int .i64 rn,.int .i64 rw',.int .i64 rs,.int .i64 ra,.int .i64 rt,.int .i64 k,.bool run] 80)
    have hk2:=Blk.new w2 [.int .i64 rn,.int .i64 rw',.int .i64 rs,.int .i64 ra,.int .i64 rt,.int .i64 k,.bool run] 80
    have hX:wr.heap.size ≤ w2.heap.size:=hb1.size
    generalize hW2:w2.alloc (.cells #[.int .i64 rn,.int .i64 rw',.int .i64 rs,.int .i64 ra,.int .i64 rt,.int .i64 k,.bool run] 80) = W2 at *
    obtain ⟨X,HX⟩:∃ X,Hid (X = w2.heap.size):=⟨_,rfl⟩
    rw [← HX.out] at hk2 hX
    obtain ⟨a5,c5,w5,hr5,hO5,hB4,hB5,hk5⟩:=RowsOwn.step2 HI.out.2.2.2 hb2 (by decide) (by omega) HI.out.2.2.1.size HI.out.1.symm 74 _ 56 Tryz.underlying74 info_rview rfl #[.int .i64 rn,.int .i64 rw',.int .i64 rs,.int .i64 ra,.int .i64 rt,.int .i64 k,.bool run] rfl (by intro u hu;simp at hu;rcases hu with rfl | rfl | rfl | rfl | rfl | rfl | rfl <;> rfl) ⟨⟨rn,rw',rs,ra,rt⟩,k,run⟩ (fun _ _ => rfl) (by have:=HLL.out;omega) (by decide)
    have hkf:Blk w5 X [.int .i64 rn,.int .i64 rw',.int .i64 rs,.int .i64 ra,.int .i64 rt,.int .i64 k,.bool run] 80:=(hk5 X hX hk2.lt).trans hk2
    have HK:=hid (And.intro hk2 hkf)
    have HR5:=hid hr5
    have HO5:=hid hO5
    have HB5:Hid (Below w1.heap.size wr w5):=hB5
    have HWW:=hid hW2
    clear hkf hr5 hO5 hB4 hB5 hk5 hb2 hk2 hb1 c0 c1 hsz hW2
    go_upto_region 7 with fail
    rw [HWW.out,← HX.out]
    have h0:=HK.out.1.cell 0 _ rfl
    have h1:=HK.out.1.cell 1 _ rfl
    have h2:=HK.out.1.cell 2 _ rfl
    have h3:=HK.out.1.cell 3 _ rfl
    have h4:=HK.out.1.cell 4 _ rfl
    have h5:=HK.out.1.cell 5 _ rfl
    have h6:=HK.out.1.cell 6 _ rfl
    have g4:=HK.out.2.cell 4 _ rfl
    go_wp2_with (at_builtin;refine wpList_append_eq rfl _ _ _ rfl _ _ rfl rfl HR5.out ?_)
    go_roundw
    case rel => exact ⟨pre ++ [⟨⟨rn,rw',rs,ra,rt⟩,k,run⟩],_,_,_,rt,rfl,rfl,hok.2,by have:=hok.1;omega,by rw [List.length_append,← HI.out.1];rfl,HST.out,HI.out.2.2.1.trans HB5.out,HO5.out⟩
    case measure => simp [intOf];have:=hok.1;omega
   ·
    have HE:Hid (vall fs l = ([],at',c)):=by
     obtain ⟨fuel,h1,h2⟩:=HI.out.2.1
     obtain ⟨f',rfl⟩:∃ f',fuel = f' + 1:=⟨fuel - 1,by omega⟩
     rw [Hid,h2,glueV_bad (by rw [← HN.out];exact hlt) (by rw [HR.out]) hc]
    have hc1:((c:Int) != 0) = true:=by simp;exact hc
    have hc2:((c:Int) == 0) = false:=by simp;exact hc
    clear hc
    go_wp2_with fail
    refine HLK.out.mono ?_
    rintro e w2 ⟨rfl,hb1⟩
    have HB2:Hid (Below w.heap.size w w2):=below_step HBW.out hb1 HBW.out.size
    clear hb1
    go_wp2_with fail
    rw [HQ.out,HE.out]
    go_ret3
    exact ⟨_,w.heap.size,rfl,Nat.le_refl _,RowsOwn.nil _ _ _ _ _ _,HB2.out.alloc HB2.out.size _⟩
  ·
   obtain rfl:at' = n:=by omega
   have HE:Hid (vall fs l = (pre,0,0)):=by
    obtain ⟨fuel,h1,h2⟩:=HI.out.2.1
    rw [Hid,h2,glueV_end (by rw [← HN.out];omega)]
   go_wp2_with fail
   rw [HQ.out,HE.out]
   go_ret3
   exact ⟨_,w1.heap.size,rfl,HB1.out.size,HI.out.2.2.2,HBW.out⟩
end Go.Proofs.YtfimpmennkfjcaaGreatDoor
