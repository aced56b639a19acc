/- Parts of a proof: texts of the author, merged. No condition of their own. -/
import Derived.Test.YtphkmpnahnakaaaGreatZ01
import Derived.Test.YtphkmpnahnakaaaGreatZ07
import Derived.Test.YtphkmpnahnakaaaGreatZ08
import Derived.Test.YtphkmpnahnakaaaGreatZ11
import Derived.Test.YtphkmpnahnakaaaGreatZ13
import Derived.Test.YtphkmpnahnakaaaGreatZ15
import Derived.Laws.BitsAllLaws
import Derived.Deep.RegionLaw
import Derived.Laws.IdiomStrings
import Derived.Laws.AppendOwn
namespace Go.Proofs.YtphkmpnahnakaaaGreat
open Go.RowKit
theorem tag_or (n w:Nat) (h:w < 8) (hn:n ≤ 536870911):bits .or .u64 ((n:Int) * 8) (w:Int) = ((8 * n + w:Nat):Int):=by
 have:=u64_or_nat (n * 8) w (by omega) (by omega)
 rw [show ((n:Int) * 8) = ((n * 8:Nat):Int) by omega,this]
 have h2:=Nat.two_pow_add_eq_or_of_lt (i:=3) h n
 have h3:n * 8 ||| w = 8 * n + w:=by simpa [Nat.mul_comm] using h2.symm
 rw [h3]
set_option maxRecDepth 100000 in
set_option maxHeartbeats 4000000 in
theorem tag_word (n x:Nat) (hn:n ≤ 536870911) (hx:x < 8) (w:World) :
  Calls Tryz.prog 133 #[.agg #[.int .i64 n,.int .i64 x]] w fun e w' => e = .returned (.int .u64 ((8 * n + x:Nat):Int)) ∧ Below w.heap.size w w':=by
 have HO:=hid (tag_or n x hx hn)
 go_enter Tryz.func133,Tryz.ntmps133
 go_wp2_with fail
 go_ret
 exact ⟨ret1 (int_eq (by first | exact HO.out | (rw [← HO.out];congr 1;omega))),by (repeat (first | with_reducible exact Below.refl _ _ | with_reducible refine Below.setCell ?_ (by first | omega | (simp;omega) | (simp;done)) _ | with_reducible refine Below.alloc ?_ (by first | omega | (simp;omega) | (simp;done)) _ | with_reducible refine below_drewN ?_ _ | with_reducible refine Below.drew ?_))⟩
set_option maxRecDepth 100000 in
set_option maxHeartbeats 4000000 in
theorem tag_Put (n x:Nat) (h:tagOk n x = true) {w:World} {v:Value} {l:List UInt8} (hv:Bytes w v l) (hl:l.length ≤ 1099511627776) :
  Calls Tryz.prog 110 #[v,.agg #[.int .i64 n,.int .i64 x]] w fun e w' => ∃ v',e = .returned (.tuple #[v',.int .u8 0]) ∧ Own w' w.heap.size v' (l ++ vput (8 * n + x)) ∧ Below w.heap.size w w':=by
 have H:=hid h
 have hb:(1:Int) ≤ n ∧ (n:Int) ≤ 536870911 ∧ ((x:Int) = 0 ∨ (x:Int) = 1 ∨ (x:Int) = 2 ∨ (x:Int) = 5):=of_decide_eq_true h
 have HV:=hid hv
 have HLB:=hid hl
 obtain ⟨hlen,a,cap,rfl,-,-,-,-⟩:=hv.open
 clear h hv hl
 go_enter Tryz.func110,Tryz.ntmps110
 go_wp2_with (first | (go_at_call 132;refine (tag_Right n x (by omega) _).mono ?_;rintro e w1 ⟨rfl,hb1⟩;rw [H.out];have HB1:=hid (((Below.refl w.heap.size w).alloc (Nat.le_refl _) _).trans (hb1.mono (by simp)));have hk:=(Blk.new w [.int .i64 n,.int .i64 x] 188).below hb1;have c1:=hk.cell 0 _ rfl;have c2:=hk.cell 1 _ rfl;clear hb1 hk) | (go_at_call 133;refine (tag_word n x (by omega) (by omega) _).mono ?_;rintro e w2 ⟨rfl,hb2⟩;have HB2:=hid (HB1.out.trans (hb2.mono HB1.out.size));clear hb2) | (go_at_call 112;refine (varint_Put (HV.out.below HB2.out) HLB.out (8 * n + x) (by omega)).mono ?_;rintro e w3 ⟨v3,rfl,hO3,hb3⟩))
 go_ret2
 exact ⟨_,rfl,hO3.mono HB2.out.size,HB2.out.trans (hb3.mono HB2.out.size)⟩
set_option maxRecDepth 100000 in
set_option maxHeartbeats 4000000 in
theorem record_fits (x:Nat) {w:World} {v:Value} {l:List UInt8} (h:rfits x l = true) (hv:Bytes w v l) :
  Calls Tryz.prog 111 #[.int .i64 x,v] w fun e w' => e = .returned (.bool true) ∧ Below w.heap.size w w':=by
 obtain ⟨hlen,a,cap,rfl,-,-,-,-⟩:=hv.open
 have HV:=hid hv
 by_cases h0:x = 0
 ·
  subst h0
  have h1:(vread l).2.2 = 0 ∧ (vread l).2.1 = l.length:=by simpa [rfits] using h
  have HC:=hid h1.1
  have HN:=hid h1.2
  clear h h1 hv
  go_enter Tryz.func111,Tryz.ntmps111
  go_wp2_with (go_at_call 134;refine (varint_Skip HV.out).mono ?_;rintro e w' ⟨rfl,rfl⟩;rw [HC.out,HN.out])
  go_ret
  exact ⟨rfl,Below.refl _ _⟩
 by_cases h1:x = 1
 ·
  subst h1
  have h1:l.length = 8:=by simpa [rfits] using h
  rw [h1] at *
  clear h hv
  go_enter Tryz.func111,Tryz.ntmps111
  go_wp2_with fail
  go_ret
  exact ⟨rfl,Below.refl _ _⟩
 by_cases h5:x = 5
 ·
  subst h5
  have h1:l.length = 4:=by simpa [rfits] using h
  rw [h1] at *
  clear h hv
  go_enter Tryz.func111,Tryz.ntmps111
  go_wp2_with fail
  go_ret
  exact ⟨rfl,Below.refl _ _⟩
 ·
  have h2:x = 2:=by
   unfold rfits at h
   rw [if_neg (by omega),if_neg (by omega),if_neg (by omega)] at h
   have:=of_decide_eq_true h
   omega
  subst h2
  clear h hv h0 h1 h5
  go_enter Tryz.func111,Tryz.ntmps111
  go_wp2_with fail
  go_ret
  exact ⟨rfl,Below.refl _ _⟩
theorem rput_nat (n x:Nat) (t:List UInt8):rput n x t = vput (8 * n + x) ++ ((if x = 2 then vput t.length else []) ++ t):=by
 unfold rput
 rw [show (8 * (n:Int) + (x:Int)).toNat = 8 * n + x by omega]
 by_cases h:x = 2
 ·
  rw [if_pos h,if_pos (by omega)]
 ·
  rw [if_neg h,if_neg (by omega)]
set_option maxRecDepth 100000 in
set_option maxHeartbeats 4000000 in
theorem record_Put (n x:Nat) (h:tagOk n x = true) {w:World} {v vt:Value} {l t:List UInt8} (hv:Bytes w v l) (hl:l.length ≤ 549755813888) (hvt:Bytes w vt t) (ht:t.length ≤ 549755813888) (hf:rfits x t = true) :
  Calls Tryz.prog 83 #[v,.int .i64 n,.int .i64 x,vt] w fun e w' => ∃ v',e = .returned (.tuple #[v',.int .u8 0]) ∧ Own w' w.heap.size v' (l ++ rput n x t) ∧ Below w.heap.size w w':=by
 have H:=hid h
 have hb:(1:Int) ≤ n ∧ (n:Int) ≤ 536870911 ∧ ((x:Int) = 0 ∨ (x:Int) = 1 ∨ (x:Int) = 2 ∨ (x:Int) = 5):=of_decide_eq_true h
 have HV:=hid hv
 have HVT:=hid hvt
 have HF:=hid hf
 have HLB:=hid hl
 have HLT:=hid ht
 have HT10:Hid ((vput (8 * n + x)).length ≤ 10):=vput_le (by omega)
 have HPL:Hid ((vput t.length).length ≤ 10):=vput_le (by omega)
 have HQ:=hid (rput_nat n x t)
 obtain ⟨hlen,a,cap,rfl,-,-,-,-⟩:=hv.open
 obtain ⟨htlen,ta,tcap,rfl,-,-,-,-⟩:=hvt.open
 obtain ⟨tn,HTN⟩:∃ n,Hid (n = t.length):=⟨_,rfl⟩
 rw [← HTN.out] at HPL HQ htlen HVT HLT ht ⊢
 clear h hv hvt hf
 by_cases h2:x = 2
 ·
  subst h2
  go_enter Tryz.func83,Tryz.ntmps83
  go_wp2_with (first | (go_at_call 110;refine (tag_Put n 2 H.out HV.out (by have:=HLB.out;omega)).mono ?_;rintro e w1 ⟨v1,rfl,hO1,hb1⟩;have HO1:=hid hO1;have HB1:=hid hb1;clear hO1 hb1) | (go_at_call 111;refine (record_fits 2 HF.out (HVT.out.below HB1.out)).mono ?_;rintro e w2 ⟨rfl,hb2⟩;have HB2:=hid (HB1.out.trans (hb2.mono HB1.out.size));have HO2:=hid (HO1.out.below_of hb2);clear hb2))
  refine (varint_Put (HO2.out.bytes (by rw [List.length_append];have:=HT10.out;have:=HLB.out;omega)) (by rw [List.length_append];have:=HT10.out;have:=HLB.out;omega) tn (by omega)).mono ?_
  rintro e w3 ⟨v3,rfl,hO3,hb3⟩
  have hB3:=HB2.out.trans (hb3.mono HB2.out.size)
  have hO3':=hO3.mono HB2.out.size
  obtain ⟨v4,w4,hr4,hO4,hg4,-⟩:=own_append hO3' (HVT.out.below hB3) (by rw [List.length_append,List.length_append,← HTN.out];have:=HT10.out;have:=HPL.out;have:=HLB.out;omega) hB3.size
  have HR4:=hid hr4
  have HO4:=hid hO4
  have HB4:=hid (own_grown hO3' hB3 hg4)
  clear hO3 hb3 hB3 hO3' hr4 hO4 hg4
  go_wp2_with (at_builtin;refine wpList_append_eq rfl _ _ _ rfl _ _ rfl rfl HR4.out ?_)
  go_ret2
  refine ⟨_,rfl,?_,HB4.out⟩
  rw [HQ.out,if_pos trivial]
  have h4:=HO4.out
  simp only [List.append_assoc] at h4
  exact h4
 ·
  have HX:Hid (rput n x t = vput (8 * n + x) ++ t):=by rw [Hid,HQ.out,if_neg h2];rfl
  go_enter Tryz.func83,Tryz.ntmps83
  go_wp2_with (first | (go_at_call 110;refine (tag_Put n x H.out HV.out (by have:=HLB.out;omega)).mono ?_;rintro e w1 ⟨v1,rfl,hO1,hb1⟩;have HO1:=hid hO1;have HB1:=hid hb1;clear hO1 hb1) | (go_at_call 111;refine (record_fits x HF.out (HVT.out.below HB1.out)).mono ?_;rintro e w2 ⟨rfl,hb2⟩;have HB2:=hid (HB1.out.trans (hb2.mono HB1.out.size));have hO2:=HO1.out.below_of hb2;obtain ⟨v4,w4,hr4,hO4,hg4,-⟩:=own_append hO2 (HVT.out.below HB2.out) (by rw [List.length_append,← HTN.out];have:=HT10.out;have:=HLB.out;omega) HB2.out.size;have HR4:=hid hr4;have HO4:=hid hO4;have HB4:=hid (own_grown hO2 HB2.out hg4);clear hb2 hO2 hr4 hO4 hg4) | (at_builtin;refine wpList_append_eq rfl _ _ _ rfl _ _ rfl rfl HR4.out ?_))
  go_ret2
  refine ⟨_,rfl,?_,HB4.out⟩
  rw [HX.out,← List.append_assoc]
  exact HO4.out
set_option maxRecDepth 100000 in
set_option maxHeartbeats 4000000 in
theorem ref03_Put (n x:Nat) (hn:n ≤ 536870911) (hx:x < 8) (w:World) :
  Calls Tryz.prog 92 #[.int .i64 n,.int .i64 x] w fun e w' => ∃ v',e = .returned v' ∧ Own w' w.heap.size v' (vput (8 * n + x)) ∧ Below w.heap.size w w':=by
 have HW:Hid (IntKind.u64.wrap (8 * (n:Int) + x) = ((8 * n + x:Nat):Int)):=by rw [Hid,IntWalk.u64_in _ (by omega)];omega
 go_enter Tryz.func92,Tryz.ntmps92
 go_wp2_with fail
 rw [show (8 * (n:Int) + (x:Int)) = ((8 * n + x:Nat):Int) by omega]
 refine (ref02_Put (8 * n + x) _ (by omega)).mono ?_
 rintro e w1 ⟨v1,rfl,hO1,hb1⟩
 go_wp2_with fail
 go_ret
 exact ⟨_,rfl,hO1,hb1⟩
set_option maxRecDepth 100000 in
set_option maxHeartbeats 4000000 in
theorem ref05_Put (n x:Nat) (hn:n ≤ 536870911) (hx:x < 8) {w:World} {vt:Value} {t:List UInt8} (hvt:Bytes w vt t) (ht:t.length ≤ 549755813888) :
  Calls Tryz.prog 58 #[.int .i64 n,.int .i64 x,vt] w fun e w' => ∃ v',e = .returned v' ∧ Own w' w.heap.size v' (rput n x t) ∧ Below w.heap.size w w':=by
 have HVT:=hid hvt
 have HLT:=hid ht
 have HT10:Hid ((vput (8 * n + x)).length ≤ 10):=vput_le (by omega)
 have HPL:Hid ((vput t.length).length ≤ 10):=vput_le (by omega)
 have HQ:=hid (rput_nat n x t)
 obtain ⟨htlen,ta,tcap,rfl,-,-,-,-⟩:=hvt.open
 obtain ⟨tn,HTN⟩:∃ n,Hid (n = t.length):=⟨_,rfl⟩
 rw [← HTN.out] at HPL HQ htlen HVT HLT ht ⊢
 clear hvt
 by_cases h2:x = 2
 ·
  subst h2
  go_enter Tryz.func58,Tryz.ntmps58
  go_wp2_with (go_at_call 92;refine (ref03_Put n 2 hn hx _).mono ?_;rintro e w1 ⟨v1,rfl,hO1,hb1⟩;have HO1:=hid hO1;have HB1:=hid hb1;clear hO1 hb1)
  refine (ref02_Put tn _ (by omega)).mono ?_
  rintro e w2 ⟨v2,rfl,hO2,hb2⟩
  have hB2:=HB1.out.trans (hb2.mono HB1.out.size)
  have hO1':=HO1.out.below_of hb2
  obtain ⟨v3,w3,hr3,hO3,hg3,-⟩:=own_append hO1' (hO2.bytes (by have:=HPL.out;omega)) (by have:=HT10.out;have:=HPL.out;omega) hB2.size
  have HB3:=hid (own_grown hO1' hB2 hg3)
  obtain ⟨v4,w4,hr4,hO4,hg4,-⟩:=own_append hO3 (HVT.out.below HB3.out) (by rw [List.length_append,← HTN.out];have:=HT10.out;have:=HPL.out;omega) HB3.out.size
  have HR3:=hid hr3
  have HR4:=hid hr4
  have HO4:=hid hO4
  have HB4:=hid (own_grown hO3 HB3.out hg4)
  clear hO2 hb2 hB2 hO1' hr3 hO3 hg3 hr4 hO4 hg4
  go_wp2_with (at_builtin;first | (refine wpList_append_eq rfl _ _ _ rfl _ _ rfl rfl HR3.out ?_) | (refine wpList_append_eq rfl _ _ _ rfl _ _ rfl rfl HR4.out ?_))
  go_ret
  refine ⟨_,rfl,?_,HB4.out⟩
  rw [HQ.out,if_pos trivial]
  have h4:=HO4.out
  simp only [List.append_assoc] at h4
  exact h4
 ·
  have HX:Hid (rput n x t = vput (8 * n + x) ++ t):=by rw [Hid,HQ.out,if_neg h2];rfl
  go_enter Tryz.func58,Tryz.ntmps58
  go_wp2_with fail
  refine (ref03_Put n x hn hx _).mono ?_
  rintro e w1 ⟨v1,rfl,hO1,hb1⟩
  obtain ⟨v4,w4,hr4,hO4,hg4,-⟩:=own_append hO1 (HVT.out.below hb1) (by rw [← HTN.out];have:=HT10.out;omega) hb1.size
  have HR4:=hid hr4
  have HO4:=hid hO4
  have HB4:=hid (own_grown hO1 hb1 hg4)
  clear hO1 hb1 hr4 hO4 hg4
  go_wp2_with (at_builtin;refine wpList_append_eq rfl _ _ _ rfl _ _ rfl rfl HR4.out ?_)
  go_ret
  refine ⟨_,rfl,?_,HB4.out⟩
  rw [HX.out]
  exact HO4.out
end Go.Proofs.YtphkmpnahnakaaaGreat
namespace Go.Proofs.YtphkmpnahnakaaaGreat
open Go.RowKit
def Apart (n0 base:Nat) (w:World) (P:World → Prop):Prop:=∀ w',(∀ b,b < w.heap.size → (b < n0 ∨ base ≤ b) → w'.heap[b]? = w.heap[b]?) → P w'
theorem Apart.here {n0 base:Nat} {w:World} {P:World → Prop} (h:Apart n0 base w P):P w:=h w fun _ _ _ => rfl
theorem Apart.later {n0 base:Nat} {w w2:World} {P:World → Prop} (h:Apart n0 base w P) (hb:Below w.heap.size w w2):Apart n0 base w2 P:=fun w' hw' => h w' fun b hlt hc => (hw' b (Nat.lt_of_lt_of_le hlt hb.size) hc).trans (hb.block b hlt)
theorem Apart.mono {n0 base base':Nat} {w:World} {P:World → Prop} (h:Apart n0 base w P) (hb:base' ≤ base):Apart n0 base' w P:=fun w' hw' => h w' fun b hlt hc => hw' b hlt (hc.imp id fun h => Nat.le_trans hb h)
def RowsOwn {α:Type} (P:World → List Value → α → Prop) (T:TypeId) (k n0 base:Nat) (w:World) (v:Value) (l:List α):Prop:=
 ∃ rows:List (List Value),rows.length = l.length ∧ (∀ r ∈ rows,r.length = k) ∧ w.ownsRow base T k v l.length rows.flatten ∧
  ∀ w',(∀ b,b < w.heap.size → v.ownBlock ≠ some b → (b < n0 ∨ base ≤ b) → w'.heap[b]? = w.heap[b]?) → ∀ (i:Nat) (r:List Value) (x:α),rows[i]? = some r → l[i]? = some x → P w' r x
theorem RowsOwn.nil {α:Type} (P:World → List Value → α → Prop) (T:TypeId) (k n0 base:Nat) (w:World):RowsOwn P T k n0 base w (.slice none 0 0) []:=
 ⟨[],rfl,by simp,World.ownsRow_nil _ _ _ _,fun _ _ i r x h => by simp at h⟩
theorem RowsOwn.later {α:Type} {P:World → List Value → α → Prop} {T:TypeId} {k n0 base:Nat} {w w2:World} {v:Value} {l:List α} (h:RowsOwn P T k n0 base w v l)
  (hw:∀ b,b < w.heap.size → (b < n0 ∨ base ≤ b) → w2.heap[b]? = w.heap[b]?) (hs:w.heap.size ≤ w2.heap.size):RowsOwn P T k n0 base w2 v l:=by
 obtain ⟨rows,h1,h2,h3,h4⟩:=h
 refine ⟨rows,h1,h2,row_keep h3 fun b cur hb he => hw b (Array.getElem?_eq_some_iff.1 he).1 (.inr hb),fun w' hw' => h4 w' fun b hlt hne hc => (hw' b (by omega) hne hc).trans (hw b hlt hc)⟩
theorem RowsOwn.below {α:Type} {P:World → List Value → α → Prop} {T:TypeId} {k n0 base:Nat} {w w2:World} {v:Value} {l:List α} (h:RowsOwn P T k n0 base w v l) (hb:Below w.heap.size w w2):RowsOwn P T k n0 base w2 v l:=
 h.later (fun b hlt _ => hb.block b hlt) hb.size
theorem RowsOwn.form {α:Type} {P:World → List Value → α → Prop} {T:TypeId} {k n0 base:Nat} {w:World} {v:Value} {l:List α} (h:RowsOwn P T k n0 base w v l):∃ a c,v = .slice a l.length c:=by
 obtain ⟨rows,-,-,h3,-⟩:=h
 rcases h3.2 with ⟨rfl,h0⟩ | ⟨g,cap,cur,rfl,_⟩
 ·
  exact ⟨none,0,by rw [h0]⟩
 ·
  exact ⟨_,_,rfl⟩
theorem RowsOwn.at {α:Type} {P:World → List Value → α → Prop} {T:TypeId} {k n0 base:Nat} {w:World} {v:Value} {l:List α} (h:RowsOwn P T k n0 base w v l) (hl:l.length ≤ 140737488355328) {w':World}
  (hw:∀ b,b < w.heap.size → (b < n0 ∨ base ≤ b) → w'.heap[b]? = w.heap[b]?):RowsAt P k w' v l:=by
 obtain ⟨rows,h1,h2,h3,h4⟩:=h
 exact ⟨rows,h1,h2,row_seg (row_keep h3 fun b cur hb he => hw b (Array.getElem?_eq_some_iff.1 he).1 (.inr hb)) hl,fun i r x hr hx => h4 w' (fun b hlt _ hc => hw b hlt hc) i r x hr hx⟩
theorem RowsOwn.append' {α:Type} {P:World → List Value → α → Prop} {T:TypeId} {k n0 base:Nat} {w:World} {v:Value} {l:List α} (h:RowsOwn P T k n0 base w v l) (hk:0 < k)
  {G:Program} (t:TypeId) (z:Value) (bytes:Nat) (ht:G.underlying t = some (.slice T)) (hinfo:(G.info? T).map (fun i => (i.zero,i.size,i.bytes)) = some (some z,k,bytes)) (hzs:z.cells.size = k)
  (cells:Array Value) (hr:cells.size = k) (h1:∀ u ∈ cells.toList,u.oneCell' = true) (x:α)
  (hP:∀ w',(∀ b,b < w.heap.size → v.ownBlock ≠ some b → (b < n0 ∨ base ≤ b) → w'.heap[b]? = w.heap[b]?) → P w' cells.toList x) (hlen:l.length ≤ 1099511627776) (hby:bytes ≤ 120) (hbase:base ≤ w.heap.size) :
  ∃ v' w',(Builtin.append_ #[t,t] t #[v,.slice (some ⟨w.heap.size,0,none⟩) 1 1]).run G (w.alloc (.cells cells T)) = .ok v' w' ∧ RowsOwn P T k n0 base w' v' (l ++ [x]) ∧
   (w.alloc (.cells cells T)).grownBy w' v.ownBlock ∧ (v'.ownBlock = v.ownBlock ∨ v'.ownBlock = some (w.alloc (.cells cells T)).heap.size):=by
 obtain ⟨rows,g1,g2,g3,g4⟩:=h
 have hseg:Seg (w.alloc (.cells cells T)) (.slice (some ⟨w.heap.size,0,none⟩) 1 1) k 1 cells.toList:=by
  refine ⟨by simp [hr],by omega,some ⟨w.heap.size,0,none⟩,1,rfl,Nat.le_refl _,by omega,by simp,fun j u hu => ⟨_,_,rfl,?_⟩⟩
  rw [Nat.zero_add,cell_of_row _ _ _ cells T (0,0) (heap_alloc_new w _)]
  simpa using hu
 have hb1:(l.length + 1) * bytes ≤ 140737488355328:=Nat.le_trans (Nat.mul_le_mul_left _ hby) (by omega)
 obtain ⟨v',w',hrun,hO,hg,hat⟩:=seg_append (P:=G) (w.alloc (.cells cells T)) base t t T z k bytes ht hinfo hzs hk v _ l.length 1 rows.flatten cells.toList
  (World.ownsRow.alloc g3 _) hseg h1 (by omega) hb1 (by simp;omega)
 refine ⟨v',w',hrun,⟨rows ++ [cells.toList],by simp [g1],?_,by simpa using hO,?_⟩,hg,hat⟩
 ·
  intro r hr'
  rcases List.mem_append.1 hr' with h | h
  ·
   exact g2 r h
  ·
   simp at h;subst h;simpa using hr
 ·
  intro w2 hw2
  have hsz:w.heap.size + 1 ≤ w'.heap.size:=by have:=hg.size;simpa using this
  have hold:∀ b,b < w.heap.size → v.ownBlock ≠ some b → (b < n0 ∨ base ≤ b) → w2.heap[b]? = w.heap[b]?:=by
   intro b hlt hne hc
   have hne':v'.ownBlock ≠ some b:=by
    rcases hat with e | e
    ·
     rw [e];exact hne
    ·
     rw [e];intro e2;simp at e2;omega
   exact ((hw2 b (by omega) hne' hc).trans (hg.block b (by simp;omega) (fun e => hne e.symm))).trans (Below.heap_alloc w _ b hlt)
  intro i r y hri hyi
  by_cases hil:i < l.length
  ·
   rw [List.getElem?_append_left (by omega)] at hri
   rw [List.getElem?_append_left hil] at hyi
   exact g4 w2 hold i r y hri hyi
  ·
   have hi:i = l.length:=by
    have:=(List.getElem?_eq_some_iff.1 hyi).1
    simp at this;omega
   subst hi
   rw [← g1,List.getElem?_concat_length] at hri
   rw [List.getElem?_concat_length] at hyi
   cases hri
   cases hyi
   exact hP w2 hold
theorem RowsOwn.append {α:Type} {P:World → List Value → α → Prop} {T:TypeId} {k n0 base:Nat} {w:World} {v:Value} {l:List α} (h:RowsOwn P T k n0 base w v l) (hk:0 < k) (hn0:n0 ≤ base)
  {G:Program} (t:TypeId) (z:Value) (bytes:Nat) (ht:G.underlying t = some (.slice T)) (hinfo:(G.info? T).map (fun i => (i.zero,i.size,i.bytes)) = some (some z,k,bytes)) (hzs:z.cells.size = k)
  (cells:Array Value) (hr:cells.size = k) (h1:∀ u ∈ cells.toList,u.oneCell' = true) (x:α) (nb:Nat) (hnb:∀ b,v.ownBlock = some b → b < nb) (hbn:base ≤ nb)
  (hP:Apart n0 nb w fun w' => P w' cells.toList x) (hlen:l.length ≤ 1099511627776) (hby:bytes ≤ 120) (hbase:base ≤ w.heap.size) :
  ∃ v' w',(Builtin.append_ #[t,t] t #[v,.slice (some ⟨w.heap.size,0,none⟩) 1 1]).run G (w.alloc (.cells cells T)) = .ok v' w' ∧ RowsOwn P T k n0 base w' v' (l ++ [x]) ∧
   (w.alloc (.cells cells T)).grownBy w' v.ownBlock ∧ (v'.ownBlock = v.ownBlock ∨ v'.ownBlock = some (w.alloc (.cells cells T)).heap.size):=by
 have g3:=h
 obtain ⟨rows,-,-,g3,-⟩:=g3
 refine h.append' hk t z bytes ht hinfo hzs cells hr h1 x (fun w2 hold => hP w2 fun b hlt hc => hold b hlt ?_ (hc.imp id fun h => Nat.le_trans hbn h)) hlen hby hbase
 intro e
 have:=hnb b e
 rcases hc with hc | hc
 ·
  have hb2:base ≤ b:=by
   rcases g3.2 with ⟨rfl,_⟩ | ⟨g,cap,cur,rfl,hb,_⟩
   ·
    simp [Value.ownBlock] at e
   ·
    simp [Value.ownBlock] at e;omega
  omega
 ·
  omega
theorem RowsOwn.own {α:Type} {P:World → List Value → α → Prop} {T:TypeId} {k n0 base:Nat} {w:World} {v:Value} {l:List α} (h:RowsOwn P T k n0 base w v l) (b:Nat) (e:v.ownBlock = some b):base ≤ b ∧ b < w.heap.size:=by
 obtain ⟨rows,-,-,h3,-⟩:=h
 rcases h3.2 with ⟨rfl,h0⟩ | ⟨g,cap,cur,rfl,hb,hg,_⟩
 ·
  simp [Value.ownBlock] at e
 ·
  simp [Value.ownBlock] at e
  subst e
  exact ⟨hb,(Array.getElem?_eq_some_iff.1 hg).1⟩
theorem RowsOwn.step {α:Type} {P:World → List Value → α → Prop} {T:TypeId} {k n0 base i:Nat} {wr w1:World} {oa:Option Addr} {oc:Nat} {l:List α} (h:RowsOwn P T k n0 base wr (.slice oa i oc) l) (hb:Below wr.heap.size wr w1) (hk:0 < k) (hn0:n0 ≤ base) (hbs:base ≤ wr.heap.size) (hil:l.length = i)
  {G:Program} (t:TypeId) (z:Value) (bytes:Nat) (ht:G.underlying t = some (.slice T)) (hinfo:(G.info? T).map (fun i => (i.zero,i.size,i.bytes)) = some (some z,k,bytes)) (hzs:z.cells.size = k)
  (cells:Array Value) (hr:cells.size = k) (h1:∀ u ∈ cells.toList,u.oneCell' = true) (x:α) (hP:Apart n0 wr.heap.size w1 fun w' => P w' cells.toList x) (hlen:i ≤ 1099511627776) (hby:bytes ≤ 120) :
  ∃ a' c' w5,(Builtin.append_ #[t,t] t #[.slice oa i oc,.slice (some ⟨w1.heap.size,0,none⟩) 1 1]).run G (w1.alloc (.cells cells T)) = .ok (.slice a' (i + 1) c') w5 ∧ RowsOwn P T k n0 base w5 (.slice a' (i + 1) c') (l ++ [x]) ∧
   Below base wr (w1.alloc (.cells cells T)) ∧ Below base wr w5:=by
 have hs:=hb.size
 have hB1:Below base wr (w1.alloc (.cells cells T)):=(hb.mono hbs).alloc (by omega) _
 obtain ⟨v',w',hrun,hO,hg,-⟩:=(h.below hb).append hk hn0 t z bytes ht hinfo hzs cells hr h1 x wr.heap.size (fun b e => (h.own b e).2) hbs hP (by omega) hby (by omega)
 obtain ⟨a',c',rfl⟩:=hO.form
 rw [List.length_append,List.length_singleton,hil] at *
 exact ⟨a',c',w',hrun,hO,hB1,hB1.grown hg (by have:=hB1.size;omega) fun q e => (h.own q e).1⟩
theorem RowsOwn.step' {α:Type} {P:World → List Value → α → Prop} {T:TypeId} {k n0 base i:Nat} {wr:World} {oa:Option Addr} {oc:Nat} {l:List α} (h:RowsOwn P T k n0 base wr (.slice oa i oc) l) (hk:0 < k) (hbs:base ≤ wr.heap.size) (hil:l.length = i)
  {G:Program} (t:TypeId) (z:Value) (bytes:Nat) (ht:G.underlying t = some (.slice T)) (hinfo:(G.info? T).map (fun i => (i.zero,i.size,i.bytes)) = some (some z,k,bytes)) (hzs:z.cells.size = k)
  (cells:Array Value) (hr:cells.size = k) (h1:∀ u ∈ cells.toList,u.oneCell' = true) (x:α)
  (hP:∀ w',(∀ b,b < wr.heap.size → (Value.slice oa i oc).ownBlock ≠ some b → (b < n0 ∨ base ≤ b) → w'.heap[b]? = wr.heap[b]?) → P w' cells.toList x) (hlen:i ≤ 1099511627776) (hby:bytes ≤ 120) :
  ∃ a' c' w5,(Builtin.append_ #[t,t] t #[.slice oa i oc,.slice (some ⟨wr.heap.size,0,none⟩) 1 1]).run G (wr.alloc (.cells cells T)) = .ok (.slice a' (i + 1) c') w5 ∧ RowsOwn P T k n0 base w5 (.slice a' (i + 1) c') (l ++ [x]) ∧
   Below base wr w5 ∧ (wr.alloc (.cells cells T)).grownBy w5 (Value.slice oa i oc).ownBlock ∧ ((Value.slice a' (i + 1) c').ownBlock = (Value.slice oa i oc).ownBlock ∨ (Value.slice a' (i + 1) c').ownBlock = some (wr.alloc (.cells cells T)).heap.size):=by
 have hB1:Below base wr (wr.alloc (.cells cells T)):=(Below.refl _ _).alloc hbs _
 obtain ⟨v',w',hrun,hO,hg,hat⟩:=h.append' hk t z bytes ht hinfo hzs cells hr h1 x hP (by omega) hby (by omega)
 obtain ⟨a',c',rfl⟩:=hO.form
 rw [List.length_append,List.length_singleton,hil] at *
 exact ⟨a',c',w',hrun,hO,hB1.grown hg (by have:=hB1.size;omega) fun q e => (h.own q e).1,hg,hat⟩
end Go.Proofs.YtphkmpnahnakaaaGreat
namespace Go.Proofs.YtphkmpnahnakaaaGreat
open Go.RowKit Go.Shelf
def SubP (d:Nat) (w:World) (r:List Value) (x:M d):Prop:=MsgAt d w (.agg r.toArray) x
def ValP' (d:Nat) (w:World) (r:List Value) (x:Val (M d)):Prop:=ValAt (MsgAt d) w (.agg r.toArray) x
theorem info_rmsg:(Tryz.prog.info? 78).map (fun i => (i.zero,i.size,i.bytes)) = some (some (.agg #[.slice none 0 0,.slice none 0 0]),2,48):=by kernel_rfl
theorem info_rval:(Tryz.prog.info? 93).map (fun i => (i.zero,i.size,i.bytes)) = some (some (.agg #[.int .i64 0,.slice none 0 0,.slice none 0 0,.slice none 0 0]),4,80):=by kernel_rfl
theorem MsgAt.form:∀ {d:Nat} {w:World} {v:Value} {x:M d},MsgAt d w v x → ∃ a1 n1 c1 a2 n2 c2,v = .agg #[.slice a1 n1 c1,.slice a2 n2 c2]
 | 0,_,_,_,h => h.elim
 | d + 1,_,_,_,h => by
  obtain ⟨vv,uv,rfl,hV,hU⟩:=h
  obtain ⟨-,va,vc,rfl,-,-⟩:=hV.open
  obtain ⟨-,ua,uc,rfl,-,-⟩:=hU.open
  exact ⟨_,_,_,_,_,_,rfl⟩
end Go.Proofs.YtphkmpnahnakaaaGreat
namespace Go.Proofs.YtphkmpnahnakaaaGreat
open Go.RowKit Go.Shelf
theorem ValAt.form {d:Nat} {w:World} {v:Value} {x:Val (M d)} (h:ValAt (MsgAt d) w v x):∃ m a1 n1 c1 a2 n2 c2 a3 n3 c3,v = .agg #[.int .i64 m,.slice a1 n1 c1,.slice a2 n2 c2,.slice a3 n3 c3]:=by
 obtain ⟨wv,tv,sv,rfl,-,hW,hT,hS⟩:=h
 obtain ⟨-,wa,wc,rfl,-,-⟩:=hW.open
 obtain ⟨-,ta,tc,rfl,-,-⟩:=hT.open
 obtain ⟨-,sa,sc,rfl,-,-⟩:=hS.open
 exact ⟨_,_,_,_,_,_,_,_,_,_,rfl⟩
end Go.Proofs.YtphkmpnahnakaaaGreat
namespace Go.Proofs.YtphkmpnahnakaaaGreat
open Go.RowKit
end Go.Proofs.YtphkmpnahnakaaaGreat
namespace Go.Proofs.YtphkmpnahnakaaaGreat
open Go.RowKit
theorem under_str:Tryz.prog.underlying 9 = some .string:=Tryz.underlying9
theorem under_u8:Tryz.prog.underlying 5 = some (.int .u8):=Tryz.underlying5
theorem str_bytes (w:World) (t:List UInt8) (ht:t.length ≤ 140737488355328) :
  ∃ g c w',(convert 9 24 (.string ⟨t.toArray⟩)).run Tryz.prog w = .ok (.slice (some ⟨g,0,none⟩) t.length c) w' ∧ Below w.heap.size w w' ∧ Bytes w' (.slice (some ⟨g,0,none⟩) t.length c) t:=by
 have h:=run_bytes_of_string (P:=Tryz.prog) w 9 24 5 ⟨t.toArray⟩ under_str under_bytes under_u8
 have hsz:(⟨t.toArray⟩:ByteArray).size = t.length:=by simp [ByteArray.size]
 rw [hsz] at h
 refine ⟨_,_,_,h,((Below.refl w.heap.size w).drew).alloc (Nat.le_refl _) _,by simp,ht,_,_,rfl,grownCap_ge _ _ _ _,?_,by simp,?_⟩
 ·
  have:=grownCap_le_maxLen w t.length 0 5 (by unfold maxLen;omega)
  unfold maxLen at this;omega
 ·
  intro j u hu
  refine ⟨_,_,rfl,?_⟩
  rw [Nat.zero_add,List.getElem?_map] at *
  have hj:j < t.length:=by
   rcases Nat.lt_or_ge j t.length with h | h
   ·
    exact h
   ·
    rw [List.getElem?_eq_none h] at hu;simp at hu
  have hb:=bytesRow_at ⟨t.toArray⟩ (grownCap w t.length 0 5) j (by simpa using hj)
  rw [List.getElem?_eq_getElem hj] at hu
  simp only [Option.map_some,Option.some.injEq] at hu
  subst hu
  rw [show w.heap.size = w.drew.heap.size from rfl,cell_of_row _ _ _ _ _ _ (heap_alloc_new w.drew _)]
  rw [hb]
  simp [byteV]
theorem RowsOwn.step2 {α:Type} {P:World → List Value → α → Prop} {T:TypeId} {k n0 base i:Nat} {wr w1:World} {oa:Option Addr} {oc:Nat} {l:List α} (h:RowsOwn P T k n0 base wr (.slice oa i oc) l) (hb:Below wr.heap.size wr w1) (hk:0 < k) (hn0:n0 ≤ base) (hbs:base ≤ wr.heap.size) (hil:l.length = i)
  {G:Program} (t:TypeId) (z:Value) (bytes:Nat) (ht:G.underlying t = some (.slice T)) (hinfo:(G.info? T).map (fun i => (i.zero,i.size,i.bytes)) = some (some z,k,bytes)) (hzs:z.cells.size = k)
  (cells:Array Value) (hr:cells.size = k) (h1:∀ u ∈ cells.toList,u.oneCell' = true) (x:α) (hP:Apart n0 wr.heap.size w1 fun w' => P w' cells.toList x) (hlen:i ≤ 1099511627776) (hby:bytes ≤ 120) :
  ∃ a' c' w5,(Builtin.append_ #[t,t] t #[.slice oa i oc,.slice (some ⟨w1.heap.size,0,none⟩) 1 1]).run G (w1.alloc (.cells cells T)) = .ok (.slice a' (i + 1) c') w5 ∧ RowsOwn P T k n0 base w5 (.slice a' (i + 1) c') (l ++ [x]) ∧
   Below base wr (w1.alloc (.cells cells T)) ∧ Below base wr w5 ∧ ∀ b,wr.heap.size ≤ b → b < w1.heap.size → w5.heap[b]? = w1.heap[b]?:=by
 have hs:=hb.size
 have hB1:Below base wr (w1.alloc (.cells cells T)):=(hb.mono hbs).alloc (by omega) _
 obtain ⟨v',w',hrun,hO,hg,-⟩:=(h.below hb).append hk hn0 t z bytes ht hinfo hzs cells hr h1 x wr.heap.size (fun b e => (h.own b e).2) hbs hP (by omega) hby (by omega)
 obtain ⟨a',c',rfl⟩:=hO.form
 rw [List.length_append,List.length_singleton,hil] at *
 refine ⟨a',c',w',hrun,hO,hB1,hB1.grown hg (by have:=hB1.size;omega) fun q e => (h.own q e).1,fun b h1 h2 => ?_⟩
 refine (hg.block b (by simp;omega) (fun e => ?_)).trans (Below.heap_alloc w1 _ b h2)
 have:=(h.own b e.symm).2
 omega
def oneRec (l:List UInt8):Prop:=(rnext l 0).2 = 0 ∧ (rnext l 0).1.to = l.length
instance (l:List UInt8):Decidable (oneRec l):=by unfold oneRec;infer_instance
theorem rnext_ok {l:List UInt8} {i:Nat} (h:(rnext l i).2 = 0):i < l.length ∧ i < (rnext l i).1.to ∧ (rnext l i).1.to ≤ l.length:=by
 rcases rnext_cases l i with ⟨h1,h2⟩ | ⟨h1,c,-,h2,h3⟩ | ⟨h1,k,x,n,-,h2,h3,h4,h5,h6,h7,⟨a,m,c,-,g1,g2,g3,g4⟩ | ⟨a,m,-,g1,g2,g3,g4,g5⟩ | ⟨a,m,-,g1,g2,g3,g4⟩⟩
 ·
  rw [h2] at h;simp at h
 ·
  rw [h3] at h;simp at h;omega
 ·
  rw [g4] at h;simp at h;omega
 ·
  rw [g5] at h;simp at h
 ·
  rw [g4];exact ⟨h1,by simp;omega,by simp;omega⟩
end Go.Proofs.YtphkmpnahnakaaaGreat
namespace Go.Proofs.YtphkmpnahnakaaaGreat
open Go.RowKit
structure VW where
 r:Rec
 k:Int
 run:Bool
def VW.cells (x:VW):List Value:=viewL x.r x.k x.run
def vallGo (fs:List Fld) (l:List UInt8):Nat → Nat → List VW × Nat × Nat
 | 0,_ => ([],0,0)
 | n + 1,i =>
  if l.length ≤ i then ([],0,0) else
  if (vlook fs l i).2.2.2 ≠ 0 then ([],i,(vlook fs l i).2.2.2) else
  let x:=vallGo fs l n (vlook fs l i).1.to
  if x.2.2 ≠ 0 then ([],x.2.1,x.2.2) else (⟨(vlook fs l i).1,(vlook fs l i).2.1,(vlook fs l i).2.2.1⟩ :: x.1,0,0)
def vall (fs:List Fld) (l:List UInt8):List VW × Nat × Nat:=vallGo fs l l.length 0
def glueV (pre:List VW) (x:List VW × Nat × Nat):List VW × Nat × Nat:=if x.2.2 ≠ 0 then ([],x.2.1,x.2.2) else (pre ++ x.1,0,0)
theorem vallGo_form (fs:List Fld) (l:List UInt8):∀ n i,(vallGo fs l n i).2.2 ≠ 0 → (vallGo fs l n i).1 = []
 | 0,_,h => by simp [vallGo] at h
 | n + 1,i,h => by
  rw [vallGo] at h ⊢
  split
  ·
   rfl
  ·
   split
   ·
    rfl
   ·
    simp only
    split
    ·
     rfl
    ·
     rename_i h1 h2 h3
     rw [if_neg h1,if_neg h2] at h
     simp only at h
     rw [if_neg h3] at h
     exact absurd rfl h
theorem vallGo_place (fs:List Fld) (l:List UInt8):∀ n i,(vallGo fs l n i).2.2 = 0 → (vallGo fs l n i).2.1 = 0
 | 0,_,_ => rfl
 | n + 1,i,h => by
  rw [vallGo] at h ⊢
  split
  ·
   rfl
  ·
   split
   ·
    rename_i h1 h2
    rw [if_neg h1,if_pos h2] at h
    exact absurd h h2
   ·
    simp only
    split
    ·
     rename_i h1 h2 h3
     rw [if_neg h1,if_neg h2] at h
     simp only at h
     rw [if_pos h3] at h
     exact absurd h h3
    ·
     rfl
theorem glueV_nil (fs:List Fld) (l:List UInt8) (n i:Nat):glueV [] (vallGo fs l n i) = vallGo fs l n i:=by
 unfold glueV
 split
 ·
  rename_i h
  have:=vallGo_form fs l n i h
  rw [← this]
 ·
  rename_i h
  have h':(vallGo fs l n i).2.2 = 0:=by omega
  have:=vallGo_place fs l n i h'
  rw [List.nil_append]
  generalize vallGo fs l n i = x at *
  obtain ⟨a,b,c⟩:=x
  simp only at *
  subst h'
  subst this
  rfl
theorem vlook_ok {fs:List Fld} {l:List UInt8} {i:Nat} (h:(vlook fs l i).2.2.2 = 0):i < l.length ∧ i < (vlook fs l i).1.to ∧ (vlook fs l i).1.to ≤ l.length ∧ (rnext l i).2 = 0 ∧ (vlook fs l i).1 = (rnext l i).1:=by
 have hr:(rnext l i).2 = 0:=by
  refine Decidable.byContradiction fun hn => ?_
  unfold vlook at h
  rw [if_pos hn] at h
  exact hn h
 have hv:(vlook fs l i).1 = (rnext l i).1:=by
  unfold vlook at h ⊢
  rw [if_neg (by omega)] at h ⊢
  split
  ·
   rfl
  ·
   rename_i h1
   rw [if_neg h1] at h
   simp only at h ⊢
   split
   ·
    rfl
   ·
    rename_i h2
    rw [if_neg h2] at h
    split
    ·
     rename_i h3
     rw [if_pos h3] at h
     simp at h
    ·
     rfl
 have:=rnext_ok hr
 rw [hv]
 exact ⟨this.1,this.2.1,this.2.2,hr,rfl⟩
theorem glueV_step {fs:List Fld} {l:List UInt8} {n i:Nat} {pre:List VW} {r:Rec} {k:Int} {run:Bool} (hi:i < l.length) (h:vlook fs l i = (r,k,run,0)) :
  glueV pre (vallGo fs l (n + 1) i) = glueV (pre ++ [⟨r,k,run⟩]) (vallGo fs l n r.to):=by
 rw [vallGo,if_neg (by omega),h]
 simp only [ne_eq,not_true_eq_false,if_false]
 unfold glueV
 by_cases hx:(vallGo fs l n r.to).2.2 = 0
 ·
  simp [hx]
 ·
  simp [hx]
theorem glueV_bad {fs:List Fld} {l:List UInt8} {n i:Nat} {pre:List VW} {c:Nat} (hi:i < l.length) (h:(vlook fs l i).2.2.2 = c) (hc:c ≠ 0):glueV pre (vallGo fs l (n + 1) i) = ([],i,c):=by
 rw [vallGo,if_neg (by omega),if_pos (by rw [h];exact hc),h]
 unfold glueV
 simp [hc]
theorem glueV_end {fs:List Fld} {l:List UInt8} {n i:Nat} {pre:List VW} (hi:l.length ≤ i):glueV pre (vallGo fs l n i) = (pre,0,0):=by
 cases n with
 | zero => simp [vallGo,glueV]
 | succ n => rw [vallGo,if_pos hi];simp [glueV]
end Go.Proofs.YtphkmpnahnakaaaGreat
namespace Go.Proofs.YtphkmpnahnakaaaGreat
variable {T:Type} {R:T → T → Prop}
theorem srt_all_lt (ht:∀ x y z,R x y → R y z → R x z) {L Q:List T} (hL:L.Pairwise R) (hQ:Q.Pairwise R) (h:L = [] ∨ Q = [] ∨ ∃ x y,L.getLast? = some x ∧ Q.head? = some y ∧ R x y):∀ a ∈ L,∀ b ∈ Q,R a b:=by
 intro a ha b hb
 rcases h with rfl | rfl | ⟨x,y,hx,hy,hxy⟩
 ·
  cases ha
 ·
  cases hb
 ·
  have h1:a = x ∨ R a x:=by
   obtain ⟨L',rfl⟩:=List.getLast?_eq_some_iff.1 hx
   rcases List.mem_append.1 ha with h | h
   ·
    exact .inr ((List.pairwise_append.1 hL).2.2 a h x (by simp))
   ·
    exact .inl (by simpa using h)
  have h2:b = y ∨ R y b:=by
   obtain ⟨Q',rfl⟩:=List.head?_eq_some_iff.1 hy
   rcases List.mem_cons.1 hb with h | h
   ·
    exact .inl h
   ·
    exact .inr ((List.pairwise_cons.1 hQ).1 b h)
  rcases h1 with rfl | h1
  ·
   rcases h2 with rfl | h2
   ·
    exact hxy
   ·
    exact ht _ _ _ hxy h2
  ·
   rcases h2 with rfl | h2
   ·
    exact ht _ _ _ h1 hxy
   ·
    exact ht _ _ _ (ht _ _ _ h1 hxy) h2
theorem merge_join (ht:∀ x y z,R x y → R y z → R x z) {L1 L2 Q1 Q2 Z1 Z2:List T} (hL:(L1 ++ L2).Pairwise R) (hQ:(Q1 ++ Q2).Pairwise R)
  (h1:L1 = [] ∨ Q2 = [] ∨ ∃ x y,L1.getLast? = some x ∧ Q2.head? = some y ∧ R x y) (h2:Q1 = [] ∨ L2 = [] ∨ ∃ x y,Q1.getLast? = some x ∧ L2.head? = some y ∧ R x y)
  (hz1:Z1.Perm (L1 ++ Q1)) (s1:Z1.Pairwise R) (hz2:Z2.Perm (L2 ++ Q2)) (s2:Z2.Pairwise R):(Z1 ++ Z2).Pairwise R ∧ (Z1 ++ Z2).Perm ((L1 ++ L2) ++ (Q1 ++ Q2)):=by
 obtain ⟨hl1,hl2,hl⟩:=List.pairwise_append.1 hL
 obtain ⟨hq1,hq2,hq⟩:=List.pairwise_append.1 hQ
 have k1:=srt_all_lt ht hl1 hq2 h1
 have k2:=srt_all_lt ht hq1 hl2 h2
 constructor
 ·
  rw [List.pairwise_append]
  refine ⟨s1,s2,fun a ha b hb => ?_⟩
  rcases List.mem_append.1 (hz1.mem_iff.1 ha) with ha | ha <;> rcases List.mem_append.1 (hz2.mem_iff.1 hb) with hb | hb
  ·
   exact hl a ha b hb
  ·
   exact k1 a ha b hb
  ·
   exact k2 a ha b hb
  ·
   exact hq a ha b hb
 ·
  refine (hz1.append hz2).trans ?_
  have e:((L1 ++ Q1) ++ (L2 ++ Q2)).Perm (L1 ++ (L2 ++ (Q1 ++ Q2))):=by
   rw [List.append_assoc]
   refine List.Perm.append_left L1 ?_
   rw [← List.append_assoc,← List.append_assoc]
   exact List.Perm.append_right Q2 List.perm_append_comm
  rw [List.append_assoc L1 L2]
  exact e
theorem srt_insert (ht:∀ x y z,R x y → R y z → R x z) {Q:List T} {x:T} (hQ:Q.Pairwise R) (i:Nat) (h1:i = 0 ∨ ∃ y,Q[i - 1]? = some y ∧ R y x) (h2:Q.length ≤ i ∨ ∃ y,Q[i]? = some y ∧ R x y) :
  (Q.take i ++ x :: Q.drop i).Pairwise R:=by
 have hQ':=hQ
 rw [← List.take_append_drop i Q] at hQ'
 obtain ⟨q1,q2,q⟩:=List.pairwise_append.1 hQ'
 have k1:∀ a ∈ Q.take i,R a x:=by
  intro a ha
  refine srt_all_lt ht q1 (List.pairwise_singleton R x) ?_ a ha x (by simp)
  rcases h1 with rfl | ⟨y,hy,hyx⟩
  ·
   exact .inl rfl
  ·
   refine .inr (.inr ⟨y,x,?_,rfl,hyx⟩)
   have hl:i - 1 < Q.length:=(List.getElem?_eq_some_iff.1 hy).1
   by_cases hi:i = 0
   ·
    subst hi;simp at ha
   ·
    rw [List.getLast?_eq_getElem?,List.length_take,Nat.min_eq_left (by omega),List.getElem?_take,if_pos (by omega)]
    exact hy
 have k2:∀ a ∈ Q.drop i,R x a:=by
  intro a ha
  refine srt_all_lt ht (List.pairwise_singleton R x) q2 ?_ x (by simp) a ha
  rcases h2 with h2 | ⟨y,hy,hxy⟩
  ·
   exact .inr (.inl (List.drop_eq_nil_of_le h2))
  ·
   refine .inr (.inr ⟨x,y,rfl,?_,hxy⟩)
   rw [List.head?_drop];exact hy
 rw [List.pairwise_append,List.pairwise_cons]
 exact ⟨q1,⟨k2,q2⟩,fun a ha b hb => by
  rcases List.mem_cons.1 hb with rfl | hb
  ·
   exact k1 a ha
  ·
   exact q a ha b hb⟩
theorem perm_insert {Q:List T} (x:T) (i:Nat):(Q.take i ++ x :: Q.drop i).Perm (x :: Q):=by
 refine List.perm_middle.trans ?_
 rw [List.take_append_drop]
theorem srt_unique (ha:∀ x y,R x y → ¬ R y x) {l m:List T} (hl:l.Pairwise R) (hm:m.Pairwise R) (h:l.Perm m):l = m:=by
 induction l generalizing m with
 | nil => exact (List.Perm.nil_eq h)
 | cons x r ih =>
  cases m with
  | nil => exact absurd h.length_eq (by simp)
  | cons y s =>
   obtain ⟨hl1,hl2⟩:=List.pairwise_cons.1 hl
   obtain ⟨hm1,hm2⟩:=List.pairwise_cons.1 hm
   have e:x = y:=by
    have h1:x ∈ y :: s:=h.mem_iff.1 (by simp)
    have h2:y ∈ x :: r:=h.mem_iff.2 (by simp)
    rcases List.mem_cons.1 h1 with h1 | h1
    ·
     exact h1
    ·
     rcases List.mem_cons.1 h2 with h2 | h2
     ·
      exact h2.symm
     ·
      exact absurd (hm1 x h1) (ha _ _ (hl1 y h2))
   subst e
   rw [ih hl2 hm2 ((List.perm_cons x).1 h)]
end Go.Proofs.YtphkmpnahnakaaaGreat
