/- darningref09.Words: the words of a run, the code (runWords). Bytes of at most 2 to the 40. -/
import Derived.Test.YtphkmpnahnakaaaGreatZ18
import Derived.Test.YtphkmpnahnakaaaGreatZ22
import Derived.Test.YtphkmpnahnakaaaGreatZ40
namespace Go.Proofs.YtphkmpnahnakaaaGreat
open Go.RowKit
theorem rpieces_flat (wire:Nat):∀ (m:Nat) (l:List UInt8),l.length ≤ m → (runCount wire l).2 = 0 → (rpieces wire l).flatten = l
 | 0,l,h,_ => by
  obtain rfl:l = []:=List.length_eq_zero_iff.1 (by omega)
  rfl
 | m + 1,l,h,hc => by
  by_cases hl:l = []
  ·
   subst hl;rfl
  ·
   rcases runSize_cases wire l with ⟨n,e,h1,h2,h3⟩ | ⟨c,e,hc'⟩
   ·
    rw [rpieces_step wire l hl n e,List.flatten_cons]
    rw [runCount_step wire l hl n e] at hc
    have h0:(runCount wire (l.drop n)).2 = 0:=by
     by_cases h6:(runCount wire (l.drop n)).2 = 0
     ·
      exact h6
     ·
      simp [h6] at hc
    rw [rpieces_flat wire m (l.drop n) (by rw [List.length_drop];omega) h0,List.take_append_drop]
   ·
    rw [runCount_bad wire l hl c (by omega) (by rw [e])] at hc
    simp at hc;omega
theorem endsF_get:∀ (ps:List (List UInt8)) (i j:Nat),j < ps.length → (endsF i ps)[j]? = some ((i + (ps.take (j + 1)).flatten.length:Nat):Int)
 | [],_,j,h => by simp at h
 | x :: r,i,0,_ => by simp [endsF]
 | x :: r,i,j + 1,h => by
  have h2:=endsF_get r (i + x.length) j (by simpa using h)
  simp only [endsF,List.getElem?_cons_succ]
  rw [h2,List.take_succ_cons,List.flatten_cons,List.length_append,Nat.add_assoc]
theorem endsF_len:∀ (ps:List (List UInt8)) (i:Nat),(endsF i ps).length = ps.length
 | [],_ => rfl
 | x :: r,i => by simp [endsF,endsF_len r]
theorem part_piece {ps:List (List UInt8)} {j:Nat} {x:List UInt8} (h:ps[j]? = some x) :
  (ps.take (j + 1)).flatten.length = (ps.take j).flatten.length + x.length ∧ (ps.take (j + 1)).flatten.length ≤ ps.flatten.length ∧ part ps.flatten (ps.take j).flatten.length (ps.take (j + 1)).flatten.length = x:=by
 have hj:=(List.getElem?_eq_some_iff.1 h).1
 have h1:ps.take (j + 1) = ps.take j ++ [x]:=by rw [List.take_add_one,h];rfl
 have h2:(ps.take (j + 1)).flatten.length = (ps.take j).flatten.length + x.length:=by rw [h1];simp
 have h3:ps.flatten = (ps.take j).flatten ++ (x ++ (ps.drop (j + 1)).flatten):=by
  conv => lhs;rw [← List.take_append_drop j ps]
  rw [List.flatten_append,List.drop_eq_getElem_cons hj,List.flatten_cons]
  rw [(List.getElem?_eq_some_iff.1 h).2]
 refine ⟨h2,?_,?_⟩
 ·
  rw [h2,h3];simp
 ·
  unfold part
  rw [h2,h3,List.drop_left,Nat.add_sub_cancel_left,List.take_left]
set_option maxRecDepth 100000 in
set_option maxHeartbeats 4000000 in
theorem ref09_Words {w:World} {v:Value} {l:List UInt8} (h:Bytes w v l) (hsm:l.length ≤ 1099511627776) (k:Int) (hk:knumber k = true) :
  Calls Tryz.prog 38 #[.int .i64 k,v] w (fun e w' => ∃ v',e = .returned (.tuple #[v',.int .i64 ((runWords k l).2:Nat)]) ∧ WordsOwn w' w.heap.size v' (runWords k l).1 ∧ Below w.heap.size w w'):=by
 have HE:=hid (ref09_Ends2 h hsm k hk)
 obtain ⟨hlen,a,cap,rfl,-⟩:=h.open
 obtain ⟨x,HX⟩:∃ x,Hid (x = (runCount (kwire k) l).2):=⟨_,rfl⟩
 obtain ⟨ps,HPS⟩:∃ ps,Hid (ps = if x = 0 then rpieces (kwire k) l else []):=⟨_,rfl⟩
 have hFL:ps.flatten = l ∨ ps = []:=by
  rw [HPS.out]
  split
  ·
   exact .inl (rpieces_flat _ _ _ (Nat.le_refl _) (by rw [← HX.out];assumption))
  ·
   exact .inr rfl
 have hps:ps.length ≤ l.length:=by
  rw [HPS.out]
  split
  ·
   exact rpieces_len _ _ _ (Nat.le_refl _)
  ·
   simp
 obtain ⟨r1,HR1⟩:∃ r,Hid (r = runWords k l):=⟨_,rfl⟩
 have hr1:r1 = (ps.map (fun x => (kread k x).1),x):=by
  rw [HR1.out,HPS.out]
  unfold runWords kwords
  rw [← HX.out]
  by_cases h0:x = 0
  ·
   rw [if_pos h0,if_pos h0,h0]
  ·
   rw [if_neg h0,if_neg h0];rfl
 rw [← HR1.out,hr1]
 clear HR1 hr1
 have hE:(if x = 0 then endsF 0 (rpieces (kwire k) l) else []) = endsF 0 ps:=by
  rw [HPS.out];split <;> rfl
 rw [← HX.out,hE] at HE
 clear hE
 obtain ⟨n,HN⟩:∃ n,Hid (n = l.length):=⟨_,rfl⟩
 have H:=hid h
 have HK:=hid hk
 have HFL:=hid hFL
 obtain ⟨m,HM⟩:∃ m,Hid (m = ps.length):=⟨_,rfl⟩
 rw [← HN.out] at hlen hsm H HE hps ⊢
 rw [← HM.out] at hps
 clear hk h hFL
 obtain ⟨Q,HQ⟩:∃ Q:Ending → World → Prop,Hid (Q = fun e w' => ∃ v',e = .returned (.tuple #[v',.int .i64 (x:Nat)]) ∧ WordsOwn w' w.heap.size v' (ps.map (fun x => (kread k x).1)) ∧ Below w.heap.size w w'):=⟨_,rfl⟩
 rw [← HQ.out]
 go_enter Tryz.func38,Tryz.ntmps38
 go_wp2_with (go_at_call 33;refine HE.out.mono ?_;rintro e w1 ⟨⟨o,rfl,hown⟩,hb1⟩)
 obtain ⟨oa,oc,ho⟩:=hown.form
 rw [endsF_len,← HM.out] at ho
 subst ho
 have hEn:∀ j x,ps[j]? = some x → ∃ b o,oa = some ⟨b,o,none⟩ ∧ w1.cell? ⟨b,o + j,none⟩ = some (.int .i64 ((ps.take (j + 1)).flatten.length:Nat)):=by
  intro j y hj
  have hj':=(List.getElem?_eq_some_iff.1 hj).1
  have hI:IntsAt w1 (.slice oa m oc) (endsF 0 ps):=hown.ints (by rw [endsF_len,← HM.out];omega) (by
   intro z hz
   obtain ⟨i,hi,rfl⟩:=List.getElem_of_mem hz
   have hi2:=hi
   rw [endsF_len] at hi2
   have e:=endsF_get ps 0 i hi2
   rw [List.getElem?_eq_getElem hi] at e
   injection e with e
   have hle:=(part_piece (List.getElem?_eq_getElem hi2)).2.1
   rcases HFL.out with hf | hf
   ·
    rw [hf,← HN.out] at hle
    rw [e];constructor <;> omega
   ·
    rw [hf] at hi2;simp at hi2)
  obtain ⟨-,a',cap',he,-,hat⟩:=hI.open
  cases he
  obtain ⟨-,b,o,ha,hc⟩:=hat j _ (endsF_get ps 0 j hj')
  exact ⟨b,o,ha,by rw [hc,Nat.zero_add]⟩
 have HEN:=hid hEn
 have HB1:=hid hb1
 clear hEn hown hb1
 go_loopw [8,9] (fun v8 v9 wr => ∃ i:Nat,v9 = .int .i64 (i:Int) ∧ i ≤ m ∧ Hid (WordsOwn wr w1.heap.size v8 ((ps.take i).map (fun x => (kread k x).1)) ∧ Below w1.heap.size w1 wr)) (fun _ v9 _ => m - (intOf v9).toNat)
 case atStart => exact ⟨0,rfl,by omega,World.ownsRow_nil _ _ _ _,Below.refl _ _⟩
 case round =>
  obtain ⟨i,rfl,hi,HI⟩:=hrel
  obtain ⟨va,vc,hvf⟩:=HI.out.1.form
  have hlen8:((ps.take i).map (fun x => (kread k x).1)).length = i:=by rw [List.length_map,List.length_take,← HM.out];omega
  rw [hlen8] at hvf
  subst hvf
  have HBW:Hid (Below w.heap.size w wr):=HB1.out.trans (HI.out.2.mono HB1.out.size)
  by_cases hlt:i < m
  ·
   obtain ⟨y,hy⟩:∃ y,ps[i]? = some y:=⟨_,List.getElem?_eq_getElem (by rw [← HM.out];omega)⟩
   have hfl:ps.flatten = l:=by
    rcases HFL.out with hf | hf
    ·
     exact hf
    ·
     rw [hf] at hy;simp at hy
   obtain ⟨hp1,hp2,hp3⟩:=part_piece hy
   rw [hfl,← HN.out] at hp2
   rw [hfl] at hp3
   obtain ⟨b,o,ha,c1⟩:=HEN.out i y hy
   have g1:=below_keeps HI.out.2 _ _ c1
   have hix:=index_run1 Tryz.underlying33 size_int ha i hlt (cap:=oc)
   obtain ⟨fr,HFR⟩:∃ fr,Hid (fr = (ps.take i).flatten.length):=⟨_,rfl⟩
   obtain ⟨en,HEE⟩:∃ en,Hid (en = (ps.take (i + 1)).flatten.length):=⟨_,rfl⟩
   rw [← HFR.out,← HEE.out] at hp1 hp3
   rw [← HEE.out] at hp2 g1
   have hV:Bytes wr (.slice a n cap) l:=H.out.keep (below_keeps HBW.out)
   have hcap:n ≤ cap:=by obtain ⟨_,_,a',c',e',h3,_⟩:=hV;cases e';exact h3
   have hsl:=slice_lh_run under_bytes size_u8 a n cap fr en (by omega) (by omega)
   have hxb:=hV.sub HN.out fr en (by omega) hp2
   rw [hp3] at hxb
   have HXB:=hid hxb
   obtain ⟨zw,HZW⟩:∃ zw,Hid (zw = kread k y):=⟨_,rfl⟩
   obtain ⟨z1,z2⟩:=zw
   obtain ⟨v2,W2,hr2,hO2,hg2⟩:=HI.out.1.one z1 (by rw [hlen8];omega) HI.out.2.size
   have HR2:=hid hr2
   have HO2:=hid hO2
   have HG2:=hid hg2
   have HY:=hid hy
   obtain ⟨sv,HSV⟩:∃ sv,Hid (sliced a fr en cap 1 = sv):=⟨_,rfl⟩
   rw [HSV.out] at hsl HXB
   have hfin:Hid (WordsOwn W2 w1.heap.size v2 ((ps.take (i + 1)).map (fun x => (kread k x).1)) ∧ Below w1.heap.size w1 W2):=by
    refine ⟨?_,?_⟩
    ·
     rw [List.take_add_one,HY.out,List.map_append]
     have:=HO2.out
     have hz:(kread k y).1 = z1:=by rw [← HZW.out]
     simpa [hz] using this
    ·
     exact HI.out.2.grown HG2.out HI.out.2.size (fun q e => by
      rcases World.ownsRow.lt HI.out.1 q e with ⟨h5,h6⟩
      exact h5)
   clear c1 ha hp1 hp3 hV hxb hr2 hO2 hg2 hy hfl
   by_cases hi0:i = 0
   ·
    have hfr:fr = 0:=by rw [HFR.out,hi0];rfl
    subst hfr
    simp only [Int.natCast_zero] at hsl
    have hng:¬ ((i:Int) > 0):=by omega
    clear hi0
    go_wp2_with (first | (go_at_call 40;refine (ref08_Read HK.out HXB.out).mono ?_;rintro e w' ⟨rfl,rfl⟩;rw [← HZW.out]) | (at_builtin;refine wpList_append_eq rfl _ _ _ rfl _ _ rfl rfl HR2.out ?_))
    go_roundw
    case rel => exact ⟨i + 1,by go_num,hlt,hfin⟩
    case measure => simp [intOf];omega
   ·
    obtain ⟨j,HJ⟩:∃ j,Hid (i = j + 1):=⟨i - 1,by rw [Hid];omega⟩
    obtain ⟨x',hx'⟩:∃ y,ps[j]? = some y:=⟨_,List.getElem?_eq_getElem (by have:=HJ.out;rw [← HM.out];omega)⟩
    obtain ⟨b',o',ha',c1'⟩:=HEN.out j x' hx'
    rw [← HJ.out,← HFR.out] at c1'
    have g2:=below_keeps HI.out.2 _ _ c1'
    have hix2:=index_run1 Tryz.underlying33 size_int ha' j (show j < m by have:=HJ.out;omega) (cap:=oc)
    have hij:(i:Int) - 1 = j:=by have:=HJ.out;omega
    have hgt:((i:Int) > 0):=by omega
    have hji:j < i:=by have:=HJ.out;omega
    clear hi0 ha' c1' hx'
    go_wp2_with (first | (go_at_call 40;refine (ref08_Read HK.out HXB.out).mono ?_;rintro e w' ⟨rfl,rfl⟩;rw [← HZW.out]) | (at_builtin;refine wpList_append_eq rfl _ _ _ rfl _ _ rfl rfl HR2.out ?_))
    go_roundw
    case rel => exact ⟨i + 1,by go_num,hlt,hfin⟩
    case measure => simp [intOf];omega
  ·
   obtain rfl:i = m:=by omega
   have hfin:Hid (WordsOwn wr w.heap.size (.slice va i vc) (ps.map (fun x => (kread k x).1)) ∧ Below w.heap.size w wr):=by
    have h1:=HI.out.1
    rw [List.take_of_length_le (by rw [← HM.out];exact Nat.le_refl _)] at h1
    exact ⟨h1.mono HB1.out.size,HBW.out⟩
   go_wp2_with fail
   rw [HQ.out]
   exact ⟨_,rfl,hfin.out⟩
end Go.Proofs.YtphkmpnahnakaaaGreat
