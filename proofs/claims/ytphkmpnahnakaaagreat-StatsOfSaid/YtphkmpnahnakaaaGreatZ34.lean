/- slices.swapRangeCmpFunc, rotateCmpFunc of ints: two runs change places. At most 2^40 ints. slices.symMergeCmpFunc of ints: two sorted runs become one. At most 2^40 ints. -/
import Derived.Test.YtphkmpnahnakaaaGreatZ33
namespace Go.Proofs.YtphkmpnahnakaaaGreat
open Go.RowKit
def RowPost (w0:World) (g:Nat) (l:List Int) (e:Ending) (w':World):Prop:=e = .returned (.tuple #[]) ∧ IRow w' g l ∧ w0.grownBy w' (some g)
set_option maxRecDepth 100000 in
set_option maxHeartbeats 8000000 in
theorem swapRange_int {w0 w:World} {g c N:Nat} {U X V Y W:List Int} (hN:N = (U ++ X ++ V ++ Y ++ W).length) (hN40:N ≤ 1099511627776) (fv:Value)
  (hI:IRow w g (U ++ X ++ V ++ Y ++ W)) (hG:w0.grownBy w (some g)) (a b n:Nat) (ha:a = U.length) (hx:X.length = n) (hy:Y.length = n) (hb:b = U.length + n + V.length) :
  Calls Tryz.prog 150 #[.slice (some ⟨g,0,none⟩) N c,.int .i64 (a:Int),.int .i64 (b:Int),.int .i64 (n:Int),fv] w (RowPost w0 g (U ++ Y ++ V ++ X ++ W)):=by
 have HI:=hid (And.intro hI hG)
 have HXY:=hid (And.intro hx hy)
 have HLN:Hid (∀ k,(swpRun U X V Y W k).length = N):=by
  intro k
  rw [swpRun_len _ _ _ _ _ _ (by rw [hx,hy]),hN]
  simp only [List.length_append]
 have hbN:b + n ≤ N:=by rw [hb,hN];simp only [List.length_append];omega
 have hab:a + n ≤ b:=by rw [ha,hb];omega
 have HAB:=hid (And.intro ha hb)
 obtain ⟨Q,HQ⟩:∃ Q:Ending → World → Prop,Hid (Q = RowPost w0 g (U ++ Y ++ V ++ X ++ W)):=⟨_,rfl⟩
 rw [← HQ.out]
 have HIX:Hid (∀ k:Nat,k < N → ∀ W,(Instr.indexAt 33 (.slice (some ⟨g,0,none⟩) N c) (.int .i64 (k:Int))).run Tryz.prog W = .ok (.pointer (some ⟨g,k,none⟩)) W):=by
  intro k hk W
  have:=index_run1 Tryz.underlying33 size_intw (a:=some ⟨g,0,none⟩) rfl k hk W (cap:=c)
  rwa [Nat.zero_add] at this
 clear hI hG hx hy ha hb hN
 go_enter Tryz.func150,Tryz.ntmps150
 go_wp2_with fail
 go_loopw [10] (fun v10 wr => ∃ i:Nat,v10 = .int .i64 (i:Int) ∧ i ≤ n ∧ Hid (IRow wr g (swpRun U X V Y W i) ∧ w0.grownBy wr (some g))) (fun v10 _ => n - (intOf v10).toNat)
 case atStart => exact ⟨0,rfl,by omega,by rw [swpRun_zero];exact HI.out.1,HI.out.2⟩
 case round =>
  obtain ⟨i,rfl,hi,HZ⟩:=hrel
  by_cases hlt:i < n
  ·
   obtain ⟨p,HP⟩:∃ p,Hid (p = a + i):=⟨_,rfl⟩
   obtain ⟨q,HP2⟩:∃ q,Hid (q = b + i):=⟨_,rfl⟩
   have hpN:p < N:=by have:=HP.out;omega
   have hqN:q < N:=by have:=HP2.out;omega
   obtain ⟨x,y,gx,gy,hsw⟩:=swpRun_step 0 U X V Y W i n HXY.out.1 HXY.out.2 hlt p q (by rw [HP.out,HAB.out.1]) (by rw [HP2.out,HAB.out.2])
   have hix:=HIX.out p hpN
   have hix2:=HIX.out q hqN
   rw [HP.out,Int.natCast_add,← HP.out] at hix
   rw [HP2.out,Int.natCast_add,← HP2.out] at hix2
   have g0:=HZ.out.1.cell p (by rw [HLN.out];exact hpN)
   have g1:=HZ.out.1.cell q (by rw [HLN.out];exact hqN)
   rw [gx] at g0
   rw [gy] at g1
   have f0:=HZ.out.1.free p
   have f1:=HZ.out.1.free q
   obtain ⟨u2,g2⟩:=cell_set_some p q _ (.int .i64 y) g1 ⟨_,g0⟩
   have HSW:=hid (HZ.out.1.swap p q (by rw [HLN.out];exact hpN) (by rw [HLN.out];exact hqN) x y gx gy)
   rw [hsw] at HSW
   have hw1:IntKind.i64.wrap ((a:Int) + (i:Int)) = (a:Int) + (i:Int):=by rw [IntKind.wrap_i64];omega
   have hw2:IntKind.i64.wrap ((b:Int) + (i:Int)) = (b:Int) + (i:Int):=by rw [IntKind.wrap_i64];omega
   clear gx gy hsw
   go_wp2_with fail
   go_big_region
   go_wp2_with fail
   go_roundw
   case rel => exact ⟨i + 1,by go_num,hlt,HSW.out,grown_drew (grown_setS (grown_setS HZ.out.2 _ _) _ _)⟩
   case measure => simp [intOf];omega
  ·
   obtain rfl:i = n:=by omega
   have HE:=hid HZ.out.1
   rw [swpRun_end _ _ _ _ _ _ HXY.out.1 HXY.out.2] at HE
   go_wp2_with fail
   go_end0
   rw [HQ.out]
   exact ⟨rfl,HE.out,HZ.out.2⟩
theorem rot_cut {l:List Int} (n:Nat) (h:n ≤ l.length):∃ l1 l2:List Int,l = l1 ++ l2 ∧ l1.length = n ∧ l2.length = l.length - n:=
 ⟨l.take n,l.drop n,(List.take_append_drop n l).symm,by rw [List.length_take];omega,by rw [List.length_drop]⟩
set_option maxRecDepth 100000 in
set_option maxHeartbeats 8000000 in
theorem rotate_int {w0 w:World} {g c N:Nat} {U X Y W:List Int} (hN:N = (U ++ X ++ Y ++ W).length) (hN40:N ≤ 1099511627776) (fv:Value)
  (hI:IRow w g (U ++ X ++ Y ++ W)) (hG:w0.grownBy w (some g)) (a m b:Nat) (ha:a = U.length) (hm:m = U.length + X.length) (hb:b = U.length + X.length + Y.length) (hX:0 < X.length) (hY:0 < Y.length) :
  Calls Tryz.prog 143 #[.slice (some ⟨g,0,none⟩) N c,.int .i64 (a:Int),.int .i64 (m:Int),.int .i64 (b:Int),fv] w (RowPost w0 g (U ++ Y ++ X ++ W)):=by
 have HI:=hid (And.intro hI hG)
 have HN:=hid hN
 have HM:=hid hm
 have HXY:=hid (And.intro hX hY)
 obtain ⟨i0,HI0⟩:∃ i0,Hid (i0 = X.length):=⟨_,rfl⟩
 obtain ⟨j0,HJ0⟩:∃ j0,Hid (j0 = Y.length):=⟨_,rfl⟩
 have hma:m = a + i0:=by rw [hm,ha,HI0.out]
 have hbm:b = m + j0:=by rw [hb,hm,HJ0.out]
 have hbN:b ≤ N:=by rw [hb,hN];simp only [List.length_append];omega
 have HMA:=hid hma
 have HBM:=hid hbm
 have ham:a ≤ m:=by omega
 have hmb:m ≤ b:=by omega
 have HA:=hid ha
 obtain ⟨Q,HQ⟩:∃ Q:Ending → World → Prop,Hid (Q = RowPost w0 g (U ++ Y ++ X ++ W)):=⟨_,rfl⟩
 rw [← HQ.out]
 have HS0:Hid ((m:Int) - (a:Int) = (i0:Int) ∧ (b:Int) - (m:Int) = (j0:Int)):=by constructor <;> omega
 clear hI hG hX hY ha hm hb hN hma hbm
 go_enter Tryz.func143,Tryz.ntmps143
 go_wp2_with fail
 simp only [HS0.out.1,HS0.out.2]
 go_loopw [10,11] (fun v10 v11 wr => ∃ i j:Nat,v10 = .int .i64 (i:Int) ∧ v11 = .int .i64 (j:Int) ∧ 0 < i ∧ 0 < j ∧ i ≤ m ∧ m + j ≤ N ∧ Hid (w0.grownBy wr (some g) ∧ ∃ U' X' Y' W':List Int,IRow wr g (U' ++ X' ++ Y' ++ W') ∧ N = (U' ++ X' ++ Y' ++ W').length ∧ X'.length = i ∧ Y'.length = j ∧ m = U'.length + i ∧ U' ++ Y' ++ X' ++ W' = U ++ Y ++ X ++ W)) (fun v10 v11 _ => (intOf v10).toNat + (intOf v11).toNat)
 case atStart =>
  have h1:=HI0.out
  have h2:=HJ0.out
  have h3:=HM.out
  have h4:=HN.out
  simp only [List.length_append] at h4
  exact ⟨i0,j0,rfl,rfl,by rw [h1];exact HXY.out.1,by rw [h2];exact HXY.out.2,by omega,by omega,HI.out.2,U,X,Y,W,HI.out.1,HN.out,h1.symm,h2.symm,by omega,rfl⟩
 case round =>
  obtain ⟨i,j,rfl,rfl,hi,hj,him,hjN,HZ⟩:=hrel
  obtain ⟨U',X',Y',W',hrow,hlen,hx,hy,hmm,heq⟩:=HZ.out.2
  obtain ⟨s,HS⟩:∃ s,Hid (s = m - i):=⟨_,rfl⟩
  have hs:(m:Int) - (i:Int) = (s:Int):=by have:=HS.out;omega
  have HSS:=hid hs
  by_cases hij:i = j
  ·
   subst hij
   have hc:=swapRange_int (c:=c) (V:=[]) (by simpa using hlen) hN40 fv (by simpa using hrow) HZ.out.1 s m i (by have:=HS.out;omega) hx hy (by simp;omega)
   have HC:=hid hc
   have HE:=hid heq
   have HGO:=hid HZ.out.1
   clear hrow hlen hx hy hmm heq hc HZ
   have b1:((i:Int) != (i:Int)) = false:=by simp
   go_wp2_with fail
   refine HC.out.mono ?_
   rintro e w3 ⟨rfl,h1,h2⟩
   go_wp2_with fail
   go_end0
   rw [HQ.out]
   exact ⟨rfl,by rw [← HE.out];simpa using h1,h2⟩
  ·
   have b1:((i:Int) != (j:Int)) = true:=by simp;omega
   have b2:(i != j) = true:=by simp;omega
   by_cases hgt:j < i
   ·
    obtain ⟨X1,X2,hX12,hl1,hl2⟩:=rot_cut j (l:=X') (by omega)
    subst hX12
    have hc:=swapRange_int (c:=c) (U:=U') (X:=X1) (V:=X2) (Y:=Y') (W:=W') (by rw [hlen];simp only [List.append_assoc]) hN40 fv (by simpa only [List.append_assoc] using hrow) HZ.out.1 s m j (by have:=HS.out;omega) hl1 hy (by omega)
    have HC:=hid hc
    have HE:=hid heq
    have HLE:=hid hlen
    have HLL:=hid (And.intro hl1 (And.intro hl2 (And.intro hy (And.intro hx hmm))))
    have hg1:(j:Int) < (i:Int):=by omega
    clear hrow hlen hx hy hmm heq hc HZ hl1 hl2
    go_wp2_with fail
    refine HC.out.mono ?_
    rintro e w3 ⟨rfl,h1,h2⟩
    have H12:=hid (And.intro h1 h2)
    clear h1 h2
    go_wp2_with fail
    go_roundw
    case rel =>
     obtain ⟨l1,l2,l3,l4,l5⟩:=HLL.out
     simp only [List.length_append] at l4
     refine ⟨i - j,j,by congr 1;omega,rfl,by omega,hj,by omega,hjN,H12.out.2,U' ++ Y',X2,X1,W',H12.out.1,?_,by rw [l2];simp only [List.length_append];omega,l1,by simp only [List.length_append];omega,?_⟩
     ·
      rw [HLE.out];simp only [List.length_append];omega
     ·
      rw [← HE.out];simp only [List.append_assoc]
    case measure => simp [intOf];omega
   ·
    have hgt':i < j:=by omega
    obtain ⟨Y1,Y2,hY12,hl1,hl2⟩:=rot_cut (j - i) (l:=Y') (by omega)
    subst hY12
    have hl2':Y2.length = i:=by omega
    obtain ⟨q,HQ2⟩:∃ q,Hid (q = m + j - i):=⟨_,rfl⟩
    have hq:(m:Int) + (j:Int) - (i:Int) = (q:Int):=by have:=HQ2.out;omega
    have hc:=swapRange_int (c:=c) (U:=U') (X:=X') (V:=Y1) (Y:=Y2) (W:=W') (by rw [hlen];simp only [List.append_assoc]) hN40 fv (by simpa only [List.append_assoc] using hrow) HZ.out.1 s q i (by have:=HS.out;omega) hx hl2' (by have:=HQ2.out;omega)
    have HC:=hid hc
    have HE:=hid heq
    have HLE:=hid hlen
    have HLL:=hid (And.intro hl1 (And.intro hl2' (And.intro hx hmm)))
    have hg1:¬ (j:Int) < (i:Int):=by omega
    clear hrow hlen hx hy hmm heq hc HZ hl1 hl2 hl2'
    go_wp2_with fail
    refine HC.out.mono ?_
    rintro e w3 ⟨rfl,h1,h2⟩
    have H12:=hid (And.intro h1 h2)
    clear h1 h2
    go_wp2_with fail
    go_roundw
    case rel =>
     obtain ⟨l1,l2,l4,l5⟩:=HLL.out
     refine ⟨i,j - i,rfl,by congr 1;omega,hi,by omega,him,by omega,H12.out.2,U',Y2,Y1,X' ++ W',by simpa only [List.append_assoc] using H12.out.1,?_,l2,l1,l5,?_⟩
     ·
      rw [HLE.out];simp only [List.length_append];omega
     ·
      rw [← HE.out];simp only [List.append_assoc]
    case measure => simp [intOf];omega
end Go.Proofs.YtphkmpnahnakaaaGreat
namespace Go.Proofs.YtphkmpnahnakaaaGreat
open Go.RowKit
theorem row_get_left {P L:List Int} {r:List Int} (k t:Nat) (x:Int) (hk:k = P.length + t) (hx:L[t]? = some x):(P ++ L ++ r).getD k 0 = x:=by
 have hl:t < L.length:=(List.getElem?_eq_some_iff.1 hx).1
 subst hk
 rw [List.append_assoc,List.getD_eq_getElem?_getD,List.getElem?_append_right (by omega),Nat.add_sub_cancel_left,List.getElem?_append_left hl,hx];rfl
set_option maxRecDepth 100000 in
set_option maxHeartbeats 8000000 in
theorem symMerge_left {w0 w:World} {g c N:Nat} {P Q S:List Int} {x:Int} (hN:N = (P ++ [x] ++ Q ++ S).length) (hN40:N ≤ 1099511627776) (F:Nat) (cap:Array Value) (cf:Int → Int → Int) (hcf:∀ (args:Array Value) (w:World),(callFunc F args).run Tryz.prog w = .ok (.enter F args) w)
  (hcmp:CmpI F cap cf w0 g (x :: Q)) {R:Int → Int → Prop} (ht:∀ x y z,R x y → R y z → R x z) (hQ:Q.Pairwise R) (hA:∀ y ∈ Q,Agree cf R x y) (hI:IRow w g (P ++ [x] ++ Q ++ S)) (hG:w0.grownBy w (some g))
  (a m b:Nat) (ha:a = P.length) (hm:m = a + 1) (hb:b = m + Q.length) :
  Calls Tryz.prog 131 #[.slice (some ⟨g,0,none⟩) N c,.int .i64 (a:Int),.int .i64 (m:Int),.int .i64 (b:Int),.func (.func F) #[] cap] w (SortPost w0 g R P ([x] ++ Q) S):=by
 have HCM:=hid hcmp
 have HT:=hid ht
 have HA:=hid hA
 have HQS:=hid hQ
 have HI:=hid (And.intro hI hG)
 have HP:=hid (And.intro ha hb)
 have HN:=hid hN
 have hbN:b ≤ N:=by rw [hb,hm,ha,hN];simp only [List.length_append,List.length_singleton];omega
 have hmb:m ≤ b:=by omega
 have HMA:Hid (m = a + 1):=hm
 have hma:(m:Int) - (a:Int) = 1:=by omega
 have ham:a < m:=by omega
 obtain ⟨QQ,HQ⟩:∃ QQ:Ending → World → Prop,Hid (QQ = SortPost w0 g R P ([x] ++ Q) S):=⟨_,rfl⟩
 rw [← HQ.out]
 have HIX:Hid (∀ k:Nat,k < N → ∀ W,(Instr.indexAt 33 (.slice (some ⟨g,0,none⟩) N c) (.int .i64 (k:Int))).run Tryz.prog W = .ok (.pointer (some ⟨g,k,none⟩)) W):=by
  intro k hk W
  have:=index_run1 Tryz.underlying33 size_intw (a:=some ⟨g,0,none⟩) rfl k hk W (cap:=c)
  rwa [Nat.zero_add] at this
 have HGX:Hid ((P ++ [x] ++ Q ++ S).getD a 0 = x):=by
  rw [Hid,List.append_assoc];exact row_get_left (L:=[x]) a 0 x ha rfl
 clear hcmp ht hQ hA hI hG ha hm hb hN
 go_enter Tryz.func131,Tryz.ntmps131
 go_wp2_with fail
 go_loopw [10,11] (fun v10 v11 wr => ∃ i j:Nat,v10 = .int .i64 (i:Int) ∧ v11 = .int .i64 (j:Int) ∧ m ≤ i ∧ i ≤ j ∧ j ≤ b ∧ Hid ((i = m ∨ ∃ y,Q[i - m - 1]? = some y ∧ R y x) ∧ (j = b ∨ ∃ y,Q[j - m]? = some y ∧ R x y) ∧ IRow wr g (P ++ [x] ++ Q ++ S) ∧ w0.grownBy wr (some g))) (fun v10 v11 _ => (intOf v11).toNat - (intOf v10).toNat)
 case atStart => exact ⟨m,b,rfl,rfl,by omega,by omega,by omega,.inl rfl,.inl rfl,HI.out⟩
 case round =>
  obtain ⟨i,j,rfl,rfl,hmi,hij,hjb,HZ⟩:=hrel
  by_cases hlt:i < j
  ·
   obtain ⟨h,HH⟩:∃ h,Hid (h = (i + j) / 2):=⟨_,rfl⟩
   have hh:((i:Int) + (j:Int)) / 2 = (h:Int):=by have:=HH.out;omega
   have hih:i ≤ h:=by have:=HH.out;omega
   have hhj:h < j:=by have:=HH.out;omega
   have hhN:h < N:=by omega
   have haN:a < N:=by omega
   obtain ⟨y,hy⟩:∃ y,Q[h - m]? = some y:=⟨_,List.getElem?_eq_getElem (by have:=HP.out.2;omega)⟩
   have HY:=hid hy
   have hix:=HIX.out h hhN
   have hix2:=HIX.out a haN
   have HLT:=hid (And.intro hhj hih)
   have g0:=HZ.out.2.2.1.cell h (by rw [← HN.out];exact hhN)
   have HGY:Hid ((P ++ [x] ++ Q ++ S).getD h 0 = y):=row_get_left h (h - m) y (by have:=HP.out.1;have:=HMA.out;simp only [List.length_append,List.length_singleton];omega) hy
   rw [HGY.out] at g0
   have g1:=HZ.out.2.2.1.cell a (by rw [← HN.out];exact haN)
   rw [HGX.out] at g1
   have HC1:=hid (HCM.out y x wr.drew (by simp [List.mem_of_getElem? hy]) (by simp) (grown_drew HZ.out.2.2.2))
   have HAG:=hid (HA.out y (List.mem_of_getElem? hy))
   clear hy
   go_wp2_with fail
   go_still_tail 9,(by kernel_rfl)
   change wpList _ _ _ _ _ wr.drew
   go_wp2_with fail
   refine HC1.out.mono ?_
   rintro e w3 ⟨rfl,hb3⟩
   have HZ3:Hid (IRow w3 g (P ++ [x] ++ Q ++ S) ∧ w0.grownBy w3 (some g)):=⟨(HZ.out.2.2.1.of_block (w':=wr.drew) rfl).below hb3,grown_belowS (grown_drew HZ.out.2.2.2) hb3⟩
   clear hb3
   by_cases hc:cf y x < 0
   ·
    have hc1:decide (cf y x < 0) = true:=decide_eq_true hc
    have HRY:Hid (R y x):=HAG.out.1.1 hc
    clear hc
    go_wp2_with fail
    go_roundw
    case rel => exact ⟨h + 1,j,by go_num,rfl,by omega,by omega,hjb,.inr ⟨y,by rw [show h + 1 - m - 1 = h - m by omega];exact HY.out,HRY.out⟩,HZ.out.2.1,HZ3.out⟩
    case measure => simp [intOf];omega
   ·
    have hc1:decide (cf y x < 0) = false:=decide_eq_false hc
    have HRY:Hid (R x y):=HAG.out.2.resolve_right fun h => hc (HAG.out.1.2 h)
    clear hc
    go_wp2_with fail
    go_roundw
    case rel => exact ⟨i,h,rfl,rfl,hmi,hih,by omega,HZ.out.1,.inr ⟨y,HY.out,HRY.out⟩,HZ3.out⟩
    case measure => simp [intOf];omega
  ·
   obtain rfl:i = j:=by omega
   obtain ⟨p,HPP⟩:∃ p,Hid (p = i - m):=⟨_,rfl⟩
   have hpi:i = m + p:=by have:=HPP.out;omega
   have HPI:=hid hpi
   have hpQ:p ≤ Q.length:=by have:=HP.out.2;omega
   have HPQ:=hid hpQ
   have HRES:Hid ((Q.take p ++ x :: Q.drop p).Pairwise R ∧ (Q.take p ++ x :: Q.drop p).Perm ([x] ++ Q)):=by
    refine ⟨srt_insert HT.out HQS.out p ?_ ?_,perm_insert x p⟩
    ·
     rcases HZ.out.1 with h | h
     ·
      exact .inl (by omega)
     ·
      rw [show i - m - 1 = p - 1 by omega] at h;exact .inr h
    ·
     rcases HZ.out.2.1 with h | h
     ·
      exact .inl (by have:=HP.out.2;omega)
     ·
      rw [show i - m = p by omega] at h;exact .inr h
   have hmw:(i:Int) - 1 = (a:Int) + (p:Int):=by have:=HMA.out;omega
   have hpN:a + p < N:=by have:=HMA.out;omega
   obtain ⟨wo,rfl⟩:∃ wo:World,wo = wr:=⟨_,rfl⟩
   clear hpi hpQ hlt
   go_wp2_with fail
   go_loopw [13] (fun v13 wr => ∃ k t:Nat,v13 = .int .i64 (k:Int) ∧ a ≤ k ∧ k ≤ a + p ∧ Hid (k = a + t ∧ IRow wr g (putAt P Q t x S) ∧ w0.grownBy wr (some g))) (fun v13 _ => a + p - (intOf v13).toNat)
   case atStart =>
    refine ⟨a,0,rfl,by omega,by omega,rfl,?_,HZ.out.2.2.2⟩
    have:=HZ.out.2.2.1
    unfold putAt
    simpa using this
   case round =>
    obtain ⟨k,t,rfl,hak,hkp,HK⟩:=hrel
    by_cases hlt:k < a + p
    ·
     have htp:t < p:=by have:=HK.out.1;omega
     obtain ⟨y,hy⟩:∃ y,Q[t]? = some y:=⟨_,List.getElem?_eq_getElem (by have:=HPQ.out;omega)⟩
     obtain ⟨k1,HK1⟩:∃ k1,Hid (k1 = k + 1):=⟨_,rfl⟩
     have hk1:(k:Int) + 1 = (k1:Int):=by have:=HK1.out;omega
     have hkN:k < N:=by omega
     have hk1N:k1 < N:=by have:=HK1.out;omega
     have HUP:=hid (putAt_up 0 P Q t x y S hy k k1 (by rw [HK.out.1,HP.out.1]) HK1.out)
     have HL:Hid (∀ t,(putAt P Q t x S).length = N):=by
      intro t
      rw [putAt_len,HN.out]
      simp only [List.length_append,List.length_singleton]
      omega
     have HGK:Hid ((putAt P Q t x S).getD k 0 = x):=putAt_get 0 P Q t x S (by have:=HPQ.out;omega) k (by rw [HK.out.1,HP.out.1])
     have hix:=HIX.out k hkN
     have hix2:=HIX.out k1 hk1N
     rw [← hk1] at hix2
     have g0:=HK.out.2.1.cell k (by rw [HL.out];exact hkN)
     rw [HGK.out] at g0
     have g1:=HK.out.2.1.cell k1 (by rw [HL.out];exact hk1N)
     rw [HUP.out.1] at g1
     have f0:=HK.out.2.1.free k
     have f1:=HK.out.2.1.free k1
     obtain ⟨u2,g2⟩:=cell_set_some k k1 _ (.int .i64 y) g1 ⟨_,g0⟩
     have HSW:=hid (HK.out.2.1.swap k k1 (by rw [HL.out];exact hkN) (by rw [HL.out];exact hk1N) x y HGK.out HUP.out.1)
     rw [HUP.out.2.1] at HSW
     have hw1:IntKind.i64.wrap ((k:Int) + 1) = (k:Int) + 1:=by rw [IntKind.wrap_i64];omega
     clear hy hk1
     go_wp2_with fail
     go_big_region
     go_wp2_with fail
     go_roundw
     case rel => exact ⟨k + 1,t + 1,by go_num,by omega,by omega,by have:=HK.out.1;omega,HSW.out,grown_drew (grown_setS (grown_setS HK.out.2.2 _ _) _ _)⟩
     case measure => simp [intOf];omega
    ·
     have HT2:Hid (t = p):=by have:=HK.out.1;show t = p;omega
     go_wp2_with fail
     go_end0
     rw [HQ.out]
     refine ⟨rfl,_,HRES.out.2,HRES.out.1,?_,HK.out.2.2⟩
     have:=HK.out.2.1
     rw [HT2.out] at this
     exact this
set_option maxRecDepth 100000 in
set_option maxHeartbeats 8000000 in
theorem symMerge_right {w0 w:World} {g c N:Nat} {P L S:List Int} {y:Int} (hN:N = (P ++ L ++ [y] ++ S).length) (hN40:N ≤ 1099511627776) (F:Nat) (cap:Array Value) (cf:Int → Int → Int) (hcf:∀ (args:Array Value) (w:World),(callFunc F args).run Tryz.prog w = .ok (.enter F args) w)
  (hcmp:CmpI F cap cf w0 g (y :: L)) {R:Int → Int → Prop} (ht:∀ x y z,R x y → R y z → R x z) (hL:L.Pairwise R) (hL1:L.length ≠ 1) (hA:∀ x ∈ L,Agree cf R x y) (hI:IRow w g (P ++ L ++ [y] ++ S)) (hG:w0.grownBy w (some g))
  (a m b:Nat) (ha:a = P.length) (hm:m = a + L.length) (hb:b = m + 1) :
  Calls Tryz.prog 131 #[.slice (some ⟨g,0,none⟩) N c,.int .i64 (a:Int),.int .i64 (m:Int),.int .i64 (b:Int),.func (.func F) #[] cap] w (SortPost w0 g R P (L ++ [y]) S):=by
 have HCM:=hid hcmp
 have HT:=hid ht
 have HA:=hid hA
 have HLS:=hid hL
 have HI:=hid (And.intro hI hG)
 have HP:=hid (And.intro ha hm)
 have HN:=hid hN
 have hbN:b ≤ N:=by rw [hb,hm,ha,hN];simp only [List.length_append,List.length_singleton];omega
 have ham:a ≤ m:=by omega
 have HBM:Hid (b = m + 1):=hb
 have hbm:(b:Int) - (m:Int) = 1:=by omega
 have n1:((m:Int) - (a:Int) == 1) = false:=by simp;omega
 have n2:decide ((m:Int) - (a:Int) = 1) = false:=decide_eq_false (by omega)
 have hmN:m < N:=by omega
 obtain ⟨QQ,HQ⟩:∃ QQ:Ending → World → Prop,Hid (QQ = SortPost w0 g R P (L ++ [y]) S):=⟨_,rfl⟩
 rw [← HQ.out]
 have HIX:Hid (∀ k:Nat,k < N → ∀ W,(Instr.indexAt 33 (.slice (some ⟨g,0,none⟩) N c) (.int .i64 (k:Int))).run Tryz.prog W = .ok (.pointer (some ⟨g,k,none⟩)) W):=by
  intro k hk W
  have:=index_run1 Tryz.underlying33 size_intw (a:=some ⟨g,0,none⟩) rfl k hk W (cap:=c)
  rwa [Nat.zero_add] at this
 have HGM:Hid ((P ++ L ++ [y] ++ S).getD m 0 = y):=row_get_left (P:=P ++ L) (L:=[y]) m 0 y (by simp only [List.length_append];omega) rfl
 clear hcmp ht hL hL1 hA hI hG ha hm hb hN
 go_enter Tryz.func131,Tryz.ntmps131
 go_wp2_with fail
 go_loopw [14,15] (fun v14 v15 wr => ∃ i j:Nat,v14 = .int .i64 (i:Int) ∧ v15 = .int .i64 (j:Int) ∧ a ≤ i ∧ i ≤ j ∧ j ≤ m ∧ Hid ((i = a ∨ ∃ x,L[i - a - 1]? = some x ∧ R x y) ∧ (j = m ∨ ∃ x,L[j - a]? = some x ∧ R y x) ∧ IRow wr g (P ++ L ++ [y] ++ S) ∧ w0.grownBy wr (some g))) (fun v14 v15 _ => (intOf v15).toNat - (intOf v14).toNat)
 case atStart => exact ⟨a,m,rfl,rfl,by omega,by omega,by omega,.inl rfl,.inl rfl,HI.out⟩
 case round =>
  obtain ⟨i,j,rfl,rfl,hmi,hij,hjb,HZ⟩:=hrel
  by_cases hlt:i < j
  ·
   obtain ⟨h,HH⟩:∃ h,Hid (h = (i + j) / 2):=⟨_,rfl⟩
   have hh:((i:Int) + (j:Int)) / 2 = (h:Int):=by have:=HH.out;omega
   have hih:i ≤ h:=by have:=HH.out;omega
   have hhj:h < j:=by have:=HH.out;omega
   have hhN:h < N:=by omega
   obtain ⟨x,hx⟩:∃ x,L[h - a]? = some x:=⟨_,List.getElem?_eq_getElem (by have:=HP.out.2;omega)⟩
   have HX:=hid hx
   have hix:=HIX.out h hhN
   have hix2:=HIX.out m hmN
   have g0:=HZ.out.2.2.1.cell h (by rw [← HN.out];exact hhN)
   have HGX:Hid ((P ++ L ++ [y] ++ S).getD h 0 = x):=by
    have h1:=row_get_left (P:=P) (L:=L) (r:=[y] ++ S) h (h - a) x (by have:=HP.out.1;omega) hx
    rw [Hid,List.append_assoc];exact h1
   rw [HGX.out] at g0
   have g1:=HZ.out.2.2.1.cell m (by rw [← HN.out];exact hmN)
   rw [HGM.out] at g1
   have HC1:=hid (HCM.out y x wr.drew (by simp) (by simp [List.mem_of_getElem? hx]) (grown_drew HZ.out.2.2.2))
   have HAG:=hid (HA.out x (List.mem_of_getElem? hx))
   clear hx
   go_wp2_with fail
   go_still_tail 9,(by kernel_rfl)
   change wpList _ _ _ _ _ wr.drew
   go_wp2_with fail
   refine HC1.out.mono ?_
   rintro e w3 ⟨rfl,hb3⟩
   have HZ3:Hid (IRow w3 g (P ++ L ++ [y] ++ S) ∧ w0.grownBy w3 (some g)):=⟨(HZ.out.2.2.1.of_block (w':=wr.drew) rfl).below hb3,grown_belowS (grown_drew HZ.out.2.2.2) hb3⟩
   clear hb3
   by_cases hc:cf y x < 0
   ·
    have hc1:decide (cf y x < 0) = true:=decide_eq_true hc
    have HRY:Hid (R y x):=HAG.out.1.1 hc
    clear hc
    go_wp2_with fail
    go_roundw
    case rel => exact ⟨i,h,rfl,rfl,hmi,hih,by omega,HZ.out.1,.inr ⟨x,HX.out,HRY.out⟩,HZ3.out⟩
    case measure => simp [intOf];omega
   ·
    have hc1:decide (cf y x < 0) = false:=decide_eq_false hc
    have HRY:Hid (R x y):=HAG.out.2.resolve_right fun h => hc (HAG.out.1.2 h)
    clear hc
    go_wp2_with fail
    go_roundw
    case rel => exact ⟨h + 1,j,by go_num,rfl,by omega,by omega,hjb,.inr ⟨x,by rw [show h + 1 - a - 1 = h - a by omega];exact HX.out,HRY.out⟩,HZ.out.2.1,HZ3.out⟩
    case measure => simp [intOf];omega
  ·
   obtain rfl:i = j:=by omega
   obtain ⟨p,HPP⟩:∃ p,Hid (p = i - a):=⟨_,rfl⟩
   have hpi:i = a + p:=by have:=HPP.out;omega
   have HPI:=hid hpi
   have hpL:p ≤ L.length:=by have:=HP.out.2;omega
   have HPL:=hid hpL
   have HRES:Hid ((L.take p ++ y :: L.drop p).Pairwise R ∧ (L.take p ++ y :: L.drop p).Perm (L ++ [y])):=by
    refine ⟨srt_insert HT.out HLS.out p ?_ ?_,(perm_insert y p).trans (List.perm_append_singleton y L).symm⟩
    ·
     rcases HZ.out.1 with h | h
     ·
      exact .inl (by omega)
     ·
      rw [show i - a - 1 = p - 1 by omega] at h;exact .inr h
    ·
     rcases HZ.out.2.1 with h | h
     ·
      exact .inl (by have:=HP.out.2;omega)
     ·
      rw [show i - a = p by omega] at h;exact .inr h
   have HIAP:=hid hpi
   obtain ⟨wo,rfl⟩:∃ wo:World,wo = wr:=⟨_,rfl⟩
   clear hpi hpL hlt
   go_wp2_with fail
   go_loopw [17] (fun v17 wr => ∃ k t:Nat,v17 = .int .i64 (k:Int) ∧ i ≤ k ∧ k ≤ m ∧ Hid (k = a + t ∧ IRow wr g (putAt P L t y S) ∧ w0.grownBy wr (some g))) (fun v17 _ => (intOf v17).toNat - i)
   case atStart =>
    refine ⟨m,L.length,rfl,by omega,by omega,HP.out.2,?_,HZ.out.2.2.2⟩
    have:=HZ.out.2.2.1
    unfold putAt
    simpa using this
   case round =>
    obtain ⟨k,t,rfl,hak,hkp,HK⟩:=hrel
    by_cases hlt:i < k
    ·
     obtain ⟨t1,HT1⟩:∃ t1,Hid (t = t1 + 1):=⟨t - 1,by have:=HK.out.1;have:=HIAP.out;show t = t - 1 + 1;omega⟩
     obtain ⟨x,hx⟩:∃ x,L[t1]? = some x:=⟨_,List.getElem?_eq_getElem (by have:=HP.out.2;have:=HK.out.1;have:=HT1.out;omega)⟩
     obtain ⟨k1,HK1⟩:∃ k1,Hid (k1 + 1 = k):=⟨k - 1,by show k - 1 + 1 = k;omega⟩
     have hk1:(k:Int) - 1 = (k1:Int):=by have:=HK1.out;omega
     have hkN:k < N:=by omega
     have hk1N:k1 < N:=by have:=HK1.out;omega
     have HUP:=hid (putAt_up 0 P L t1 y x S hx k1 k (by have:=HK.out.1;have:=HT1.out;have:=HK1.out;have:=HP.out.1;omega) HK1.out.symm)
     rw [← HT1.out] at HUP
     have HL:Hid (∀ t,(putAt P L t y S).length = N):=by
      intro t
      rw [putAt_len,HN.out]
      simp only [List.length_append,List.length_singleton]
     have HGK:Hid ((putAt P L t y S).getD k 0 = y):=putAt_get 0 P L t y S (by have:=HP.out.2;have:=HK.out.1;omega) k (by rw [HK.out.1,HP.out.1])
     have hix:=HIX.out k hkN
     have hix2:=HIX.out k1 hk1N
     rw [← hk1] at hix2
     have g0:=HK.out.2.1.cell k (by rw [HL.out];exact hkN)
     rw [HGK.out] at g0
     have g1:=HK.out.2.1.cell k1 (by rw [HL.out];exact hk1N)
     rw [HUP.out.2.2.2] at g1
     have f0:=HK.out.2.1.free k
     have f1:=HK.out.2.1.free k1
     obtain ⟨u2,g2⟩:=cell_set_some k k1 _ (.int .i64 x) g1 ⟨_,g0⟩
     have HSW:=hid (HK.out.2.1.swap k k1 (by rw [HL.out];exact hkN) (by rw [HL.out];exact hk1N) y x HGK.out HUP.out.2.2.2)
     rw [HUP.out.2.2.1] at HSW
     have hw1:IntKind.i64.wrap ((k:Int) - 1) = (k:Int) - 1:=by rw [IntKind.wrap_i64];omega
     have hkk:1 ≤ k:=by omega
     have HK1':Hid ((k:Int) - 1 = (k1:Int)):=hk1
     clear hx hk1
     go_wp2_with fail
     go_big_region
     go_wp2_with fail
     go_roundw
     case rel => exact ⟨k1,t1,by rw [HK1'.out],by have:=HK1.out;omega,by have:=HK1.out;omega,by have:=HK.out.1;have:=HK1.out;have:=HT1.out;omega,HSW.out,grown_drew (grown_setS (grown_setS HK.out.2.2 _ _) _ _)⟩
     case measure => simp [intOf];have:=HK1.out;omega
    ·
     have HT2:Hid (t = p):=by have:=HK.out.1;have:=HIAP.out;show t = p;omega
     go_wp2_with fail
     go_end0
     rw [HQ.out]
     refine ⟨rfl,_,HRES.out.2,HRES.out.1,?_,HK.out.2.2⟩
     have:=HK.out.2.1
     rw [HT2.out] at this
     exact this
end Go.Proofs.YtphkmpnahnakaaaGreat
