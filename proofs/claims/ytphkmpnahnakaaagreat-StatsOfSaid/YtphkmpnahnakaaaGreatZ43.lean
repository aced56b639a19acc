/- darningref16.Value, Encode: encV, encM, where the schema and the meaning are right; weights are at most 2^30. darningref18.Form: the normal form of valid bytes (nform). At most 2^20 bytes. Plain laws: the codes of a check are below 256 (vcheck_code). No condition. -/
import Derived.Test.YtphkmpnahnakaaaGreatZ14
import Derived.Test.YtphkmpnahnakaaaGreatZ19
import Derived.Test.YtphkmpnahnakaaaGreatZ26
import Derived.Test.YtphkmpnahnakaaaGreatZ28
import Derived.Test.YtphkmpnahnakaaaGreatZ42
namespace Go.Proofs.YtphkmpnahnakaaaGreat
open Go.RowKit
def REncOk (s:List Mes) (d:Nat):Prop:=∀ (w:World) (root:Int) (v sv:Value) (x:M d),SchemaAt w sv s → MsgAt d w v x → rightB s d root x = true → mwt d x ≤ 1073741824 →
 Calls Tryz.prog 22 #[sv,.int .i64 root,v] w fun e w' => ∃ v',e = .returned v' ∧ Own w' w.heap.size v' (encM s d root x) ∧ Below w.heap.size w w'
def RValOk (s:List Mes) (d:Nat):Prop:=∀ (w:World) (f:Fld) (v sv:Value) (x:Val (M d)),SchemaAt w sv s → ValAt (MsgAt d) w v x → fitsB (rightB s d) f x = true → 1 ≤ f.number ∧ f.number ≤ 536870911 → vwt (mwt d) x ≤ 1073741824 →
 Calls Tryz.prog 35 #[sv,f.val,v] w fun e w' => ∃ v',e = .returned v' ∧ Own w' w.heap.size v' (encV (encM s d) f x) ∧ Below w.heap.size w w'
theorem ref05_Put2 (n:Nat) (hn:n ≤ 536870911) {w:World} {vt:Value} {t:List UInt8} (hvt:Bytes w vt t) (ht:t.length ≤ 549755813888) :
  Calls Tryz.prog 58 #[.int .i64 n,.int .i64 2,vt] w fun e w' => ∃ v',e = .returned v' ∧ Own w' w.heap.size v' (rput n 2 t) ∧ Below w.heap.size w w':=ref05_Put n 2 hn (by omega) hvt ht
set_option maxRecDepth 100000 in
set_option maxHeartbeats 4000000 in
theorem ref16_Value {s:List Mes} {d:Nat} (hs:sright s = true) (ih:REncOk s d):RValOk s d:=by
 intro w f v sv x hS hx hfit hnum hwt
 have HEL:=hid (enc_lenV (w:=w) (fun root v x h hw => enc_len hs d root v x h hw) f (by omega) v x hx (by omega))
 obtain ⟨name,number,kind,rep,packed,of⟩:=f
 obtain ⟨wv,tv,sv',rfl,hn64,hW,hT,hSu⟩:=hx
 obtain ⟨hwl,wa,wcp,rfl,-,hwa⟩:=hW.open
 obtain ⟨htl,ta,tc,rfl,-,hta⟩:=hT.open
 obtain ⟨hsl,sa,sc,rfl,-,hsa⟩:=hSu.open
 obtain ⟨-,ssa,ssc,rfl,-⟩:=hS.open
 obtain ⟨sln,HSLN⟩:∃ n,Hid (n = s.length):=⟨_,rfl⟩
 rw [← HSLN.out] at hS ⊢
 obtain ⟨nm,rfl⟩:∃ n:Nat,number = n:=⟨number.toNat,by have:=hnum.1;simp at this;omega⟩
 have HFN:=hid (fun h => fits_num hfit h)
 have hkr:=fits_kind hfit
 generalize x.num = num at *
 simp only [Fld.val]
 simp only at hkr hnum
 have HPARTS:=hid (encV_parts (encM s d) ⟨name,nm,kind,rep,packed,of⟩ x fun h => ⟨(fits_num hfit h).1,(fits_num hfit h).2.1⟩)
 obtain ⟨OUT,HOUT⟩:∃ l,Hid (l = encV (encM s d) ⟨name,nm,kind,rep,packed,of⟩ x):=⟨_,rfl⟩
 rw [← HOUT.out] at HPARTS HEL ⊢
 have HKR:=hid hkr
 have HS:=hid hS
 have HWD:=hid hW
 have HIH:=hid ih
 have HNUM:=hid hnum
 have HWT:=hid hwt
 have HWA:=hid hwa
 have HTA:=hid hta
 have HSA:=hid hsa
 have HFIT:=hid hfit
 obtain ⟨wn,HWN⟩:∃ n,Hid (n = x.words.length):=⟨_,rfl⟩
 obtain ⟨tn,HTN⟩:∃ n,Hid (n = x.texts.length):=⟨_,rfl⟩
 obtain ⟨sn,HSN⟩:∃ n,Hid (n = x.subs.length):=⟨_,rfl⟩
 rw [← HWN.out] at hwl HWD ⊢
 rw [← HTN.out] at htl ⊢
 rw [← HSN.out] at hsl ⊢
 obtain ⟨L1,HL1⟩:∃ L1:List Value,Hid (L1 = [.string name,.int .i64 nm,.int .i64 kind,.bool rep,.bool packed,.int .i64 of]):=⟨_,rfl⟩
 obtain ⟨L2,HL2⟩:∃ L2:List Value,Hid (L2 = [.int .i64 num,.slice wa wn wcp,.slice ta tn tc,.slice sa sn sc]):=⟨_,rfl⟩
 have H2:Hid (∀ W,W = ((w.alloc (.cells #[.string name,.int .i64 nm,.int .i64 kind,.bool rep,.bool packed,.int .i64 of] 48)).alloc (.cells #[.int .i64 num,.slice wa wn wcp,.slice ta tn tc,.slice sa sn sc] 93)) →
   Blk W w.heap.size L1 48 ∧ Blk W (w.heap.size + 1) L2 93 ∧ Below w.heap.size w W):=by
  rintro W rfl
  rw [HL1.out,HL2.out]
  refine ⟨(Blk.new w _ _).alloc _,?_,((Below.refl w.heap.size w).alloc (Nat.le_refl _) _).alloc (by simp) _⟩
  have:=Blk.new (w.alloc (.cells #[.string name,.int .i64 nm,.int .i64 kind,.bool rep,.bool packed,.int .i64 of] 48)) [.int .i64 num,.slice wa wn wcp,.slice ta tn tc,.slice sa sn sc] 93
  rw [show (w.alloc (.cells #[.string name,.int .i64 nm,.int .i64 kind,.bool rep,.bool packed,.int .i64 of] 48)).heap.size = w.heap.size + 1 by simp] at this
  exact this
 clear hkr hS hW hT hSu ih hnum hwt hwa hta hsa hfit
 go_enter Tryz.func35,Tryz.ntmps35
 go_wp2_with fail
 have h2:=H2.out _ rfl
 clear H2
 obtain ⟨W2,HW2⟩:∃ W2,Hid (W2 = ((w.alloc (.cells #[.string name,.int .i64 nm,.int .i64 kind,.bool rep,.bool packed,.int .i64 of] 48)).alloc (.cells #[.int .i64 num,.slice wa wn wcp,.slice ta tn tc,.slice sa sn sc] 93))):=⟨_,rfl⟩
 rw [← HW2.out] at h2 ⊢
 obtain ⟨hk1,hk2,hb1⟩:=h2
 obtain ⟨b1,HB1E⟩:∃ b1,Hid (b1 = w.heap.size):=⟨_,rfl⟩
 rw [← HB1E.out] at hk1 hk2 ⊢
 have HK1:=hid hk1
 have HJ1:=hid hk2
 have HB1:=hid hb1
 clear hk1 hk2 hb1 HW2
 have h1:=HK1.out
 have h2:=HJ1.out
 rw [HL1.out] at h1
 rw [HL2.out] at h2
 have l1:=h1.lt
 have l2:=h2.lt
 have k1:=h1.cell 1 _ rfl
 have k2:=h1.cell 2 _ rfl
 have k3:=h1.cell 3 _ rfl
 have x1:=h2.cell 1 _ rfl
 clear h1 h2
 go_wp2_with fail
 refine (ref06_Number kind _).mono ?_
 rintro e w1 ⟨rfl,rfl⟩
 have hwl2:x.words.length ≤ 1073741824:=by have:=HWT.out;unfold vwt at this;omega
 have HWL:=hid hwl2
 clear hwl2
 cases hkn:knumber kind with
 | true =>
  have HKN:=hid hkn
  clear hkn
  obtain ⟨h1,h2,h3,h4⟩:=HFN.out HKN.out
  have HW1:=hid (And.intro h3 h4)
  clear h1 h2 h3 h4
  cases rep with
  | true =>
   have k0:W2.drew.cell? ⟨b1,1,none⟩ = some (.int .i64 nm) ∧ W2.drew.cell? ⟨b1,2,none⟩ = some (.int .i64 kind) ∧ W2.drew.cell? ⟨b1 + 1,1,none⟩ = some (.slice wa wn wcp):=⟨k1,k2,x1⟩
   have HP:=hid (ref09_Pack HKN.out (w:=W2.drew) (HWD.out.keep (below_keeps HB1.out.drew)) (by have:=HWL.out;omega))
   go_wp2_with fail
   go_region_held3 (fun w' => w'.cell? ⟨b1,1,none⟩ = some (.int .i64 nm) ∧ w'.cell? ⟨b1,2,none⟩ = some (.int .i64 kind) ∧ w'.cell? ⟨b1 + 1,1,none⟩ = some (.slice wa wn wcp)) (first | (with_reducible exact k0) | (with_reducible exact k3) | (with_reducible exact k4) | go_keep) (first | (go_at_call 59;(with_reducible refine (HP.out).mono ?_);rintro e w3 ⟨v3,rfl,hO3,hb3⟩;have k3:w3.cell? ⟨b1,1,none⟩ = some (.int .i64 nm) ∧ w3.cell? ⟨b1,2,none⟩ = some (.int .i64 kind) ∧ w3.cell? ⟨b1 + 1,1,none⟩ = some (.slice wa wn wcp):=⟨below_keeps hb3 _ _ k0.1,below_keeps hb3 _ _ k0.2.1,below_keeps hb3 _ _ k0.2.2⟩;have hB3:=HB1.out.drew.trans (hb3.mono HB1.out.size);have HB3:=hid hB3;have hpl:=kpack_le kind x.words HWD.out.2;have HP2:=hid (ref05_Put2 nm (by have:=HNUM.out.2;omega) (hO3.bytes (by have:=HWL.out;omega)) (by have:=HWL.out;omega));clear hb3 hB3 hpl hO3) | (go_at_call 58;(with_reducible refine (HP2.out).mono ?_);rintro e w4 ⟨v4,rfl,hO4,hb4⟩;have k4:w4.cell? ⟨b1,1,none⟩ = some (.int .i64 nm) ∧ w4.cell? ⟨b1,2,none⟩ = some (.int .i64 kind) ∧ w4.cell? ⟨b1 + 1,1,none⟩ = some (.slice wa wn wcp):=⟨below_keeps hb4 _ _ k3.1,below_keeps hb4 _ _ k3.2.1,below_keeps hb4 _ _ k3.2.2⟩;have HB4:=hid (HB3.out.trans (hb4.mono HB3.out.size));have HO4:=hid hO4;clear hb4 hO4))
   have HE:Hid (OUT = rput nm 2 (kpack kind x.words)):=by
    rw [Hid,HOUT.out,encV,if_pos HKN.out,if_pos rfl]
   go_wp2_with fail
   go_ret
   exact ⟨v4,rfl,by rw [HE.out];exact HO4.out.mono HB3.out.size,HB4.out⟩
  | false =>
   go_wp2_with fail
   refine (ref06_Number kind _).mono ?_
   rintro e w1 ⟨rfl,rfl⟩
   rw [HKN.out]
   obtain ⟨x0,h0⟩:∃ x0,x.words[0]? = some x0:=by
    have:=HW1.out.1
    exact ⟨_,List.getElem?_eq_getElem (by omega)⟩
   have hwa:=HWA.out
   obtain ⟨h64,b,o,ha,g0⟩:=hwa 0 x0 h0
   have H64:=hid h64
   have HX0:Hid (x.words.getD 0 0 = x0):=by rw [Hid,List.getD,h0];rfl
   have hw0:0 < wn:=by have:=HW1.out.1;rw [HWN.out];omega
   replace g0:=below_keeps HB1.out _ _ g0
   have hbl:b < W2.heap.size:=World.block_lt_of_cell? W2 _ g0
   unfold wordV at g0
   have hix:=index_0 Tryz.underlying90 size_u64 ha hw0 (cap:=wcp)
   rw [Nat.add_zero] at g0
   have k0:W2.drew.cell? ⟨b1,1,none⟩ = some (.int .i64 nm) ∧ W2.drew.cell? ⟨b1,2,none⟩ = some (.int .i64 kind) ∧ W2.drew.cell? ⟨b1 + 1,1,none⟩ = some (.slice wa wn wcp) ∧ W2.drew.cell? ⟨b,o,none⟩ = some (.int .u64 x0):=⟨k1,k2,x1,g0⟩
   have HP:=hid (ref08_Put HKN.out x0 h64 W2.drew)
   clear hwa ha h0 h64
   go_wp2_with fail
   go_region_held3 (fun w' => w'.cell? ⟨b1,1,none⟩ = some (.int .i64 nm) ∧ w'.cell? ⟨b1,2,none⟩ = some (.int .i64 kind) ∧ w'.cell? ⟨b1 + 1,1,none⟩ = some (.slice wa wn wcp) ∧ w'.cell? ⟨b,o,none⟩ = some (.int .u64 x0)) (first | (with_reducible exact k0) | (with_reducible exact k3) | (with_reducible exact k4) | go_keep) (first | (go_at_call 55;(with_reducible refine (ref06_Wire kind HKR.out _).mono ?_);rintro e w' ⟨rfl,rfl⟩) | (go_at_call 60;(with_reducible refine (HP.out).mono ?_);rintro e w3 ⟨v3,rfl,hO3,hb3⟩;have k3:w3.cell? ⟨b1,1,none⟩ = some (.int .i64 nm) ∧ w3.cell? ⟨b1,2,none⟩ = some (.int .i64 kind) ∧ w3.cell? ⟨b1 + 1,1,none⟩ = some (.slice wa wn wcp) ∧ w3.cell? ⟨b,o,none⟩ = some (.int .u64 x0):=⟨below_keeps hb3 _ _ k0.1,below_keeps hb3 _ _ k0.2.1,below_keeps hb3 _ _ k0.2.2.1,below_keeps hb3 _ _ k0.2.2.2⟩;have hB3:=HB1.out.drew.trans (hb3.mono HB1.out.size);have HB3:=hid hB3;have hpl:=kput_le kind H64.out;have HP2:=hid (ref05_Put nm (kwire kind) (by have:=HNUM.out.2;omega) (by unfold kwire;(repeat' split) <;> omega) (hO3.bytes (by omega)) (by omega));clear hb3 hB3 hpl hO3) | (go_at_call 58;(with_reducible refine (HP2.out).mono ?_);rintro e w4 ⟨v4,rfl,hO4,hb4⟩;have k4:w4.cell? ⟨b1,1,none⟩ = some (.int .i64 nm) ∧ w4.cell? ⟨b1,2,none⟩ = some (.int .i64 kind) ∧ w4.cell? ⟨b1 + 1,1,none⟩ = some (.slice wa wn wcp) ∧ w4.cell? ⟨b,o,none⟩ = some (.int .u64 x0):=⟨below_keeps hb4 _ _ k3.1,below_keeps hb4 _ _ k3.2.1,below_keeps hb4 _ _ k3.2.2.1,below_keeps hb4 _ _ k3.2.2.2⟩;have HB4:=hid (HB3.out.trans (hb4.mono HB3.out.size));have HO4:=hid hO4;clear hb4 hO4))
   have HE:Hid (OUT = rput nm (kwire kind) (kput kind x0)):=by
    rw [Hid,HOUT.out,encV,if_pos HKN.out,if_neg (by simp),HX0.out]
   go_wp2_with fail
   go_ret
   exact ⟨v4,rfl,by rw [HE.out];exact HO4.out.mono HB3.out.size,HB4.out⟩
 | false =>
  have HKN:=hid hkn
  clear hkn
  go_wp2_with fail
  refine (ref06_Number kind _).mono ?_
  rintro e w1 ⟨rfl,rfl⟩
  rw [HKN.out]
  have HEN:Hid (OUT = x.texts.flatMap (rput nm 2) ++ x.subs.flatMap fun y => rput nm 2 (encM s d of y)):=by
   rw [Hid,HPARTS.out,encN,if_neg (by rw [HKN.out];decide)];rfl
  clear k1 k2 k3 x1 l1 l2
  go_wp2_with fail
  go_loopw [7,8] (fun v7 v8 wr => ∃ (i:Nat),v8 = .int .i64 i ∧ i ≤ tn ∧ Hid (Own wr W2.heap.size v7 ((x.texts.take i).flatMap (rput nm 2)) ∧ Below W2.heap.size W2 wr)) (fun _ v8 _ => tn - (intOf v8).toNat)
  case atStart => exact ⟨0,rfl,Nat.zero_le _,own_nil _ _,Below.refl _ _⟩
  case round =>
   obtain ⟨i,rfl,hi,HI⟩:=hrel
   have h1:=HK1.out.below HI.out.2
   have h2:=HJ1.out.below HI.out.2
   rw [HL1.out] at h1
   rw [HL2.out] at h2
   have l1:=h1.lt
   have l2:=h2.lt
   have k1:=h1.cell 1 _ rfl
   have x2:=h2.cell 2 _ rfl
   have HBW:Hid (Below w.heap.size w wr):=HB1.out.trans (HI.out.2.mono HB1.out.size)
   clear h1 h2
   by_cases hlt:i < tn
   ·
    have hxi:x.texts[i]? = some (x.texts[i]'(by rw [← HTN.out];exact hlt)):=List.getElem?_eq_getElem _
    generalize x.texts[i]'(by rw [← HTN.out];exact hlt) = z at hxi
    have hta:=HTA.out
    obtain ⟨hzl,b4,o4,ha4,g0⟩:=hta i z hxi
    have hU:strV z = .string ⟨z.toArray⟩:=rfl
    rw [hU] at g0
    replace g0:=below_keeps HBW.out _ _ g0
    have hbl4:b4 < wr.heap.size:=World.block_lt_of_cell? wr _ g0
    have hix4:=index_run1 Tryz.underlying58 size_str ha4 i hlt (cap:=tc)
    have hzw:z.length ≤ 1073741824:=by
     have h1:=mem_sum_le (fun t:List UInt8 => 1 + t.length) x.texts z (List.mem_of_getElem? hxi)
     have h2:=HWT.out
     unfold vwt twt at h2
     omega
    have HTK:=hid (flat_take_succ (rput nm 2) x.texts i z hxi)
    have hlen:((x.texts.take i).flatMap (rput nm 2)).length + (rput nm 2 z).length ≤ 140737488355328:=by
     have h1:=HEL.out
     rw [HEN.out,List.length_append] at h1
     have h2:=flat_take_len (rput nm 2) x.texts (i + 1)
     rw [HTK.out,List.length_append] at h2
     have h3:=HWT.out
     omega
    have HZ:=hid (And.intro hzw hlen)
    obtain ⟨gz,cz,wz,hcv,hbz,hby⟩:=str_bytes wr.drew z hzl
    have HBZ:Hid (Below wr.heap.size wr wz):=(Below.refl wr.heap.size wr).drew.trans hbz
    have HBY:=hid hby
    have HCV:=hid hcv
    clear hta ha4 hxi hU hzw hlen hzl hbz hby hcv
    go_wp2_with fail
    have hcv:=HCV.out
    have k1z:=below_keeps HBZ.out _ _ k1
    have l1z:b1 < wz.heap.size:=World.block_lt_of_cell? wz _ k1z
    go_region_law (first | (go_simp;go_at_call 58;(with_reducible refine (ref05_Put2 nm (by have:=HNUM.out.2;omega) HBY.out (by have:=HZ.out.1;omega)).mono ?_);rintro e w3 ⟨v3,rfl,hO3,hb3⟩;have hB3:=HBZ.out.trans (hb3.mono HBZ.out.size);obtain ⟨v4,w4,hr4,hO4,hg4,-⟩:=own_append (HI.out.1.below_of hB3) (hO3.bytes (by have:=HZ.out.2;omega)) HZ.out.2 (by have:=HI.out.2.size;have:=hB3.size;omega);have HB4:=hid (own_grown (HI.out.1.below_of hB3) (HI.out.2.trans (hB3.mono HI.out.2.size)) hg4);have HR4:=hid hr4;have HO4:=hid hO4;clear hr4 hO4 hg4 hO3 hb3 hB3) | (refine step_append_eq rfl (.tmp 48) (.tmp 57) _ rfl _ _ rfl rfl HR4.out ?_))
    all_goals
     go_wp2_with fail
     go_roundw
     case rel => exact ⟨i + 1,by go_num,hlt,by rw [HTK.out];exact HO4.out,HB4.out⟩
     case measure => simp [intOf];omega
   ·
    obtain rfl:i = tn:=by omega
    rw [List.take_of_length_le (by rw [HTN.out];exact Nat.le_refl _)] at HI
    go_wp2_with fail
    obtain ⟨A,HAE⟩:∃ A,Hid (A = x.texts.flatMap (rput nm 2)):=⟨_,rfl⟩
    rw [← HAE.out] at HI
    have HI1:=hid (And.intro HI.out.1 HI.out.2)
    clear x2 l1 l2 k1
    go_loopw [7,9] (fun v7 v9 wq => ∃ (j:Nat),v9 = .int .i64 j ∧ j ≤ sn ∧ Hid (Own wq W2.heap.size v7 (A ++ (x.subs.take j).flatMap (fun y => rput nm 2 (encM s d of y))) ∧ Below W2.heap.size W2 wq)) (fun _ v9 _ => sn - (intOf v9).toNat)
    case atStart => exact ⟨0,rfl,Nat.zero_le _,by simpa using HI1.out.1,HI1.out.2⟩
    case round =>
     obtain ⟨j,rfl,hj,HJ⟩:=hrel
     clear HI HI1 HBW
     have h1:=HK1.out.below HJ.out.2
     have h2:=HJ1.out.below HJ.out.2
     rw [HL1.out] at h1
     rw [HL2.out] at h2
     have l1:=h1.lt
     have l2:=h2.lt
     have k1:=h1.cell 1 _ rfl
     have k5:=h1.cell 5 _ rfl
     have x3:=h2.cell 3 _ rfl
     have HBW:Hid (Below w.heap.size w wr):=HB1.out.trans (HJ.out.2.mono HB1.out.size)
     clear h1 h2
     by_cases hlt:j < sn
     ·
      have hxi:x.subs[j]? = some (x.subs[j]'(by rw [← HSN.out];exact hlt)):=List.getElem?_eq_getElem _
      generalize x.subs[j]'(by rw [← HSN.out];exact hlt) = m at hxi
      have hsa:=HSA.out
      obtain ⟨b4,o4,v1,v2,ha4,g0,g1,hM⟩:=hsa j m hxi
      have hmem:=List.mem_of_getElem? hxi
      obtain ⟨va,vn,vc,ua,un,uc,rfl,rfl⟩:=msg_form hM
      have HG:=hid (And.intro g0 g1)
      replace g0:=below_keeps HBW.out _ _ g0
      replace g1:=below_keeps HBW.out _ _ g1
      have hbl4:b4 < wr.heap.size:=World.block_lt_of_cell? wr _ g0
      have hix4:=index_run Tryz.underlying91 size_rmsg ha4 j hlt (cap:=sc)
      have hmw:mwt d m ≤ 1073741824:=by
       have h1:=mem_sum_le (mwt d) x.subs m hmem
       have h2:=HWT.out
       unfold vwt at h2
       omega
      have HTK:=hid (flat_take_succ (fun y => rput nm 2 (encM s d of y)) x.subs j m hxi)
      have hlen:(A ++ (x.subs.take j).flatMap (fun y => rput nm 2 (encM s d of y))).length + (rput nm 2 (encM s d of m)).length ≤ 1125899906842624:=by
       have h1:=HEL.out
       rw [HEN.out,← HAE.out,List.length_append] at h1
       have h2:=flat_take_len (fun y => rput nm 2 (encM s d of y)) x.subs (j + 1)
       rw [HTK.out,List.length_append] at h2
       have h3:=HWT.out
       rw [List.length_append]
       omega
      have hel:=enc_len (w:=w) hs d of _ m hM (by omega)
      have HZ:Hid ((A ++ (x.subs.take j).flatMap (fun y => rput nm 2 (encM s d of y))).length + (rput nm 2 (encM s d of m)).length ≤ 140737488355328 ∧ (encM s d of m).length ≤ 549755813888):=by
       refine ⟨?_,by omega⟩
       have h1:=HEL.out
       rw [HEN.out,← HAE.out,List.length_append] at h1
       have h2:=flat_take_len (fun y => rput nm 2 (encM s d of y)) x.subs (j + 1)
       rw [HTK.out,List.length_append] at h2
       have h3:=HWT.out
       rw [List.length_append]
       omega
      have k0:wr.drew.cell? ⟨b1,1,none⟩ = some (.int .i64 nm) ∧ wr.drew.cell? ⟨b1,5,none⟩ = some (.int .i64 of) ∧ wr.drew.cell? ⟨b1 + 1,3,none⟩ = some (.slice sa sn sc) ∧ wr.drew.cell? ⟨b4,o4 + j * 2,none⟩ = some (.slice va vn vc) ∧ wr.drew.cell? ⟨b4,o4 + j * 2 + 1,none⟩ = some (.slice ua un uc):=⟨k1,k5,x3,g0,g1⟩
      have HP:=hid (HIH.out wr.drew of _ _ m (HS.out.keep (below_keeps HBW.out.drew)) (hM.keep (below_keeps HBW.out.drew)) (fits_subs HFIT.out hmem).2 hmw)
      clear hsa ha4 hxi hM hmem hmw hlen hel
      go_wp2_with fail
      go_region_held3 (fun w' => w'.cell? ⟨b1,1,none⟩ = some (.int .i64 nm) ∧ w'.cell? ⟨b1,5,none⟩ = some (.int .i64 of) ∧ w'.cell? ⟨b1 + 1,3,none⟩ = some (.slice sa sn sc) ∧ w'.cell? ⟨b4,o4 + j * 2,none⟩ = some (.slice va vn vc) ∧ w'.cell? ⟨b4,o4 + j * 2 + 1,none⟩ = some (.slice ua un uc)) (first | (with_reducible exact k0) | (with_reducible exact kz) | (with_reducible exact k3) | (with_reducible exact k4) | go_keep) (first | (go_at_call 22;(with_reducible refine (HP.out).mono ?_);rintro e wz ⟨vz,rfl,hOz,hbz⟩;have kz:wz.cell? ⟨b1,1,none⟩ = some (.int .i64 nm) ∧ wz.cell? ⟨b1,5,none⟩ = some (.int .i64 of) ∧ wz.cell? ⟨b1 + 1,3,none⟩ = some (.slice sa sn sc) ∧ wz.cell? ⟨b4,o4 + j * 2,none⟩ = some (.slice va vn vc) ∧ wz.cell? ⟨b4,o4 + j * 2 + 1,none⟩ = some (.slice ua un uc):=⟨below_keeps hbz _ _ k0.1,below_keeps hbz _ _ k0.2.1,below_keeps hbz _ _ k0.2.2.1,below_keeps hbz _ _ k0.2.2.2.1,below_keeps hbz _ _ k0.2.2.2.2⟩;have HBZ:=hid ((Below.refl wr.heap.size wr).drew.trans hbz);have HBY:=hid (hOz.bytes (by have:=HZ.out.2;omega));clear hOz hbz) | (go_at_call 58;(with_reducible refine (ref05_Put2 nm (by have:=HNUM.out.2;omega) HBY.out HZ.out.2).mono ?_);rintro e w3 ⟨v3,rfl,hO3,hb3⟩;have k3:w3.cell? ⟨b1,1,none⟩ = some (.int .i64 nm) ∧ w3.cell? ⟨b1,5,none⟩ = some (.int .i64 of) ∧ w3.cell? ⟨b1 + 1,3,none⟩ = some (.slice sa sn sc) ∧ w3.cell? ⟨b4,o4 + j * 2,none⟩ = some (.slice va vn vc) ∧ w3.cell? ⟨b4,o4 + j * 2 + 1,none⟩ = some (.slice ua un uc):=⟨below_keeps hb3 _ _ kz.1,below_keeps hb3 _ _ kz.2.1,below_keeps hb3 _ _ kz.2.2.1,below_keeps hb3 _ _ kz.2.2.2.1,below_keeps hb3 _ _ kz.2.2.2.2⟩;have hB3:=HBZ.out.trans (hb3.mono HBZ.out.size);obtain ⟨v4,w4,hr4,hO4,hg4,-⟩:=own_append (HJ.out.1.below_of hB3) (hO3.bytes (by have:=HZ.out.1;omega)) HZ.out.1 (by have:=HJ.out.2.size;have:=hB3.size;omega);have hB4:=own_grown (HJ.out.1.below_of hB3) (HJ.out.2.trans (hB3.mono HJ.out.2.size)) hg4;have h1:=HK1.out.below hB4;have h2:=HJ1.out.below hB4;rw [HL1.out] at h1;rw [HL2.out] at h2;have k4:w4.cell? ⟨b1,1,none⟩ = some (.int .i64 nm) ∧ w4.cell? ⟨b1,5,none⟩ = some (.int .i64 of) ∧ w4.cell? ⟨b1 + 1,3,none⟩ = some (.slice sa sn sc) ∧ w4.cell? ⟨b4,o4 + j * 2,none⟩ = some (.slice va vn vc) ∧ w4.cell? ⟨b4,o4 + j * 2 + 1,none⟩ = some (.slice ua un uc):=⟨h1.cell 1 _ rfl,h1.cell 5 _ rfl,h2.cell 3 _ rfl,below_keeps (HB1.out.trans (hB4.mono HB1.out.size)) _ _ HG.out.1,below_keeps (HB1.out.trans (hB4.mono HB1.out.size)) _ _ HG.out.2⟩;have HR4:=hid hr4;have HO4:=hid hO4;have HB4:=hid hB4;clear hr4 hO4 hg4 hB4 h1 h2 hO3 hb3 hB3) | (refine step_append_eq rfl (.tmp 66) (.tmp 78) _ rfl _ _ rfl rfl HR4.out ?_))
      go_wp2_with fail
      go_roundw
      case rel => exact ⟨j + 1,by go_num,hlt,by rw [HTK.out,← List.append_assoc];exact HO4.out,HB4.out⟩
      case measure => simp [intOf];omega
     ·
      obtain rfl:j = sn:=by omega
      rw [List.take_of_length_le (by rw [HSN.out];exact Nat.le_refl _)] at HJ
      go_wp2_with fail
      go_ret
      refine ⟨_,rfl,?_,HBW.out⟩
      rw [HEN.out,← HAE.out]
      exact HJ.out.1.mono HB1.out.size
set_option maxRecDepth 100000 in
set_option maxHeartbeats 4000000 in
theorem ref16_Encode_step {s:List Mes} {d:Nat} (hs:sright s = true) (ih:RValOk s d):REncOk s (d + 1):=by
 intro w root v sv x hS hM hR hwt
 have HEL:=hid (enc_len (w:=w) hs (d + 1) root v x hM (by omega))
 obtain ⟨vv,uv,rfl,hV,hU⟩:=hM
 obtain ⟨hvl,va,vc,rfl,-,hva⟩:=hV.open
 obtain ⟨hul,ua,uc,rfl,-,hua⟩:=hU.open
 obtain ⟨hr0,hr1,hvals,-⟩:=rightB_parts hR
 obtain ⟨r,rfl⟩:∃ r:Nat,root = r:=⟨root.toNat,by omega⟩
 simp only [Int.toNat_natCast] at hvals
 have hr:r < s.length:=by omega
 have hnum:=sright_num hs r hr
 have HS:=hid hS
 obtain ⟨hsl,sa,sc,rfl,hsat⟩:=hS.open
 obtain ⟨sn,HSN⟩:∃ n,Hid (n = s.length):=⟨_,rfl⟩
 rw [← HSN.out] at hsl HS ⊢
 have hrn:r < sn:=by rw [HSN.out];exact hr
 obtain ⟨b,o,fv,ha,-,hc0,hc1,hF⟩:=hsat r hr
 have HF:=hid hF
 obtain ⟨hfl,fa,fc,rfl,hfat⟩:=hF.open
 have HENC:Hid (encM s (d + 1) r x = (M.vals x).flatMap (fun v => encV (encM s d) ((s.getD r .zero).fields.getD (fieldAt (s.getD r .zero).fields v.num).toNat .zero) v) ++ (M.unk x).flatMap id):=rfl
 obtain ⟨OUT,HOUT⟩:∃ l,Hid (l = encM s (d + 1) r x):=⟨_,rfl⟩
 rw [← HOUT.out] at HENC HEL ⊢
 obtain ⟨fs,HFS⟩:∃ f,Hid (f = (s.getD r .zero).fields):=⟨_,rfl⟩
 rw [← HFS.out] at hfl hc1 HF hF hfat hvals hnum HENC
 obtain ⟨fl,HFL⟩:∃ n,Hid (n = fs.length):=⟨_,rfl⟩
 rw [← HFL.out] at hfl hc1 HF hF hfat
 obtain ⟨vn,HVN⟩:∃ n,Hid (n = (M.vals x).length):=⟨_,rfl⟩
 obtain ⟨un,HUN⟩:∃ n,Hid (n = (M.unk x).length):=⟨_,rfl⟩
 rw [← HVN.out] at hvl ⊢
 rw [← HUN.out] at hul ⊢
 have HVALS:=hid hvals
 have HNUM:=hid hnum
 have HIH:=hid ih
 have HVA:=hid hva
 have HUA:=hid hua
 have HFA:=hid hfat
 have HWS:Hid (1 + twt (M.unk x) + ((M.vals x).map (vwt (mwt d))).sum ≤ 1073741824):=hwt
 have HWT:Hid (mwt (d + 1) x ≤ 1073741824):=hwt
 have hix:=index_run Tryz.underlying23 size_mes ha r hrn (cap:=sc)
 have hbl:b < w.heap.size:=World.block_lt_of_cell? w _ hc0
 generalize (s.getD r .zero).name = nm at *
 obtain ⟨L1,HL1⟩:∃ L1:List Value,Hid (L1 = [.slice va vn vc,.slice ua un uc]):=⟨_,rfl⟩
 have H2:Hid (∀ W,W = (w.alloc (.cells #[.slice va vn vc,.slice ua un uc] 78)) → Blk W w.heap.size L1 78 ∧ Below w.heap.size w W):=by
  rintro W rfl
  rw [HL1.out]
  exact ⟨Blk.new w _ _,(Below.refl w.heap.size w).alloc (Nat.le_refl _) _⟩
 clear hV hU hsat hS hwt hF hva hfat ih ha hua hR hvals hnum hr0 hr1 hr
 go_enter Tryz.func22,Tryz.ntmps22
 go_wp2_with fail
 have h2:=H2.out _ rfl
 clear H2
 obtain ⟨W2,HW2⟩:∃ W2,Hid (W2 = (w.alloc (.cells #[.slice va vn vc,.slice ua un uc] 78))):=⟨_,rfl⟩
 rw [← HW2.out] at h2 ⊢
 obtain ⟨hk1,hb1⟩:=h2
 obtain ⟨B,HBE⟩:∃ B,Hid (B = w.heap.size):=⟨_,rfl⟩
 rw [← HBE.out] at hk1 ⊢
 have HK1:=hid hk1
 have HB1:=hid hb1
 clear hk1 hb1 HW2
 obtain ⟨FV,HFV⟩:∃ FV:Val (M d) → List UInt8,Hid (FV = fun v => encV (encM s d) (fs.getD (fieldAt fs v.num).toNat .zero) v):=⟨_,rfl⟩
 rw [← HFV.out] at HENC
 go_wp2_with fail
 go_loopw [7,8] (fun v7 v8 wr => ∃ (i:Nat),v8 = .int .i64 i ∧ i ≤ vn ∧ Hid (Own wr W2.heap.size v7 (((M.vals x).take i).flatMap FV) ∧ Below W2.heap.size W2 wr)) (fun _ v8 _ => vn - (intOf v8).toNat)
 case atStart => exact ⟨0,rfl,Nat.zero_le _,own_nil _ _,Below.refl _ _⟩
 case round =>
  obtain ⟨i,rfl,hi,HI⟩:=hrel
  have h1:=HK1.out.below HI.out.2
  rw [HL1.out] at h1
  have l1:=h1.lt
  have c0:=h1.cell 0 _ rfl
  have HBW:Hid (Below w.heap.size w wr):=HB1.out.trans (HI.out.2.mono HB1.out.size)
  clear h1
  by_cases hlt:i < vn
  ·
   have hmi:(M.vals x)[i]? = some ((M.vals x)[i]'(by rw [← HVN.out];exact hlt)):=List.getElem?_eq_getElem _
   generalize (M.vals x)[i]'(by rw [← HVN.out];exact hlt) = m at hmi
   have hva:=HVA.out
   obtain ⟨b2,o2,v1,v2,v3,ha2,g0,g1,g2,g3,hM⟩:=hva i m hmi
   clear hva
   have hmem:=List.mem_of_getElem? hmi
   obtain ⟨hfa0,hfit⟩:=HVALS.out m hmem
   obtain ⟨jn,hjl,hj⟩:=fieldAt_lt hfa0
   have hwm:vwt (mwt d) m ≤ 1073741824:=by
    have h1:=mem_sum_le (vwt (mwt d)) (M.vals x) m hmem
    have h2:=HWS.out
    omega
   have HWM:=hid hwm
   have HM:=hid hM
   have hnb:-9223372036854775808 ≤ m.num ∧ m.num ≤ 9223372036854775807:=by
    obtain ⟨_,_,_,_,h,_⟩:=hM
    exact h
   obtain ⟨mm,a1,n1,q1,a2,n2,q2,a3,n3,q3,he⟩:=hM.form
   cases he
   have HGG:=hid (And.intro g0 (And.intro g1 (And.intro g2 g3)))
   have hk:=below_keeps HBW.out
   replace g0:=hk _ _ g0
   replace g1:=hk _ _ g1
   replace g2:=hk _ _ g2
   replace g3:=hk _ _ g3
   have m0:=hk _ _ hc0
   have m1:=hk _ _ hc1
   have hblr:b < wr.heap.size:=World.block_lt_of_cell? wr _ m0
   have hbl2:b2 < wr.heap.size:=World.block_lt_of_cell? wr _ g0
   have hix2:=index_run Tryz.underlying76 size_rval ha2 i hlt (cap:=vc)
   have HTK:=hid (flat_take_succ FV (M.vals x) i m hmi)
   have hFVm:FV m = encV (encM s d) (fs.getD jn .zero) m:=by
    rw [HFV.out]
    show encV (encM s d) (fs.getD (fieldAt fs m.num).toNat .zero) m = _
    rw [hj];rfl
   rw [hj,Int.toNat_natCast] at hfit
   have hll:(((M.vals x).take i).flatMap FV).length + (FV m).length ≤ 140737488355328:=by
    have h1:=HEL.out
    rw [HENC.out,List.length_append] at h1
    have h2:=flat_take_len FV (M.vals x) (i + 1)
    rw [HTK.out,List.length_append] at h2
    have h3:=HWT.out
    omega
   have hmf:fs.getD jn .zero ∈ fs:=by
    have:fs.getD jn .zero = fs[jn]:=by simp [List.getD,hjl]
    rw [this];exact List.getElem_mem hjl
   have HNB:=hid (HNUM.out _ hmf)
   rw [← HFL.out] at hjl
   have HFM:=hid (And.intro hfit hll)
   have hfa:=HFA.out
   obtain ⟨b3,o3,ha3,hok,f0,f1,f2,f3,f4,f5⟩:=hfa jn hjl
   clear hfa
   obtain ⟨⟨name,number,kind,rep,packed,of⟩,HFD⟩:∃ f,Hid (fs.getD jn .zero = f):=⟨_,rfl⟩
   rw [HFD.out] at f0 f1 f2 f3 f4 f5 HFM HNB hFVm
   have HFVM:=hid hFVm
   have HFF:=hid (And.intro f0 (And.intro f1 (And.intro f2 (And.intro f3 (And.intro f4 f5)))))
   replace f0:=hk _ _ f0
   replace f1:=hk _ _ f1
   replace f2:=hk _ _ f2
   replace f3:=hk _ _ f3
   replace f4:=hk _ _ f4
   replace f5:=hk _ _ f5
   have hix3:=index_run Tryz.underlying49 size_fld ha3 jn hjl (cap:=fc)
   have lb3:b3 < wr.heap.size:=World.block_lt_of_cell? wr _ f0
   have HJ:=hid hj
   generalize hmn:m.num = mn at *
   have HMN:=hid hmn
   have k0:wr.drew.cell? ⟨B,0,none⟩ = some (.slice va vn vc) ∧ wr.drew.cell? ⟨b,o + r * 2,none⟩ = some (.string nm) ∧ wr.drew.cell? ⟨b,o + r * 2 + 1,none⟩ = some (.slice fa fl fc) ∧ wr.drew.cell? ⟨b2,o2 + i * 4,none⟩ = some (.int .i64 mn) ∧ wr.drew.cell? ⟨b2,o2 + i * 4 + 1,none⟩ = some (.slice a1 n1 q1) ∧ wr.drew.cell? ⟨b2,o2 + i * 4 + 2,none⟩ = some (.slice a2 n2 q2) ∧ wr.drew.cell? ⟨b2,o2 + i * 4 + 3,none⟩ = some (.slice a3 n3 q3) ∧ wr.drew.cell? ⟨b3,o3 + jn * 6,none⟩ = some (.string name) ∧ wr.drew.cell? ⟨b3,o3 + jn * 6 + 1,none⟩ = some (.int .i64 number) ∧ wr.drew.cell? ⟨b3,o3 + jn * 6 + 2,none⟩ = some (.int .i64 kind) ∧ wr.drew.cell? ⟨b3,o3 + jn * 6 + 3,none⟩ = some (.bool rep) ∧ wr.drew.cell? ⟨b3,o3 + jn * 6 + 4,none⟩ = some (.bool packed) ∧ wr.drew.cell? ⟨b3,o3 + jn * 6 + 5,none⟩ = some (.int .i64 of):=⟨c0,m0,m1,g0,g1,g2,g3,f0,f1,f2,f3,f4,f5⟩
   have HBN:Hid (Calls Tryz.prog 36 #[.agg #[.string nm,.slice fa fl fc],.int .i64 mn] wr.drew fun e w' => e = .returned (.int .i64 jn) ∧ Below wr.drew.heap.size wr.drew w'):=by
    have h:=ref07_Field (w:=wr.drew) (HF.out.keep (below_keeps HBW.out.drew)) nm mn
    rw [HJ.out] at h
    exact h
   clear hmn hM ha2 hmi hmem hfa0 hfit hll hFVm hmf ha3 hok hj hk hwm
   go_wp2_with fail
   go_region_held3 (fun w' => w'.cell? ⟨B,0,none⟩ = some (.slice va vn vc) ∧ w'.cell? ⟨b,o + r * 2,none⟩ = some (.string nm) ∧ w'.cell? ⟨b,o + r * 2 + 1,none⟩ = some (.slice fa fl fc) ∧ w'.cell? ⟨b2,o2 + i * 4,none⟩ = some (.int .i64 mn) ∧ w'.cell? ⟨b2,o2 + i * 4 + 1,none⟩ = some (.slice a1 n1 q1) ∧ w'.cell? ⟨b2,o2 + i * 4 + 2,none⟩ = some (.slice a2 n2 q2) ∧ w'.cell? ⟨b2,o2 + i * 4 + 3,none⟩ = some (.slice a3 n3 q3) ∧ w'.cell? ⟨b3,o3 + jn * 6,none⟩ = some (.string name) ∧ w'.cell? ⟨b3,o3 + jn * 6 + 1,none⟩ = some (.int .i64 number) ∧ w'.cell? ⟨b3,o3 + jn * 6 + 2,none⟩ = some (.int .i64 kind) ∧ w'.cell? ⟨b3,o3 + jn * 6 + 3,none⟩ = some (.bool rep) ∧ w'.cell? ⟨b3,o3 + jn * 6 + 4,none⟩ = some (.bool packed) ∧ w'.cell? ⟨b3,o3 + jn * 6 + 5,none⟩ = some (.int .i64 of)) (first | (with_reducible exact k0) | (with_reducible exact kz) | (with_reducible exact k3) | (with_reducible exact k4) | go_keep) (first | (go_at_call 36;(with_reducible refine (HBN.out).mono ?_);rintro e wz ⟨rfl,hbz⟩;have kz:wz.cell? ⟨B,0,none⟩ = some (.slice va vn vc) ∧ wz.cell? ⟨b,o + r * 2,none⟩ = some (.string nm) ∧ wz.cell? ⟨b,o + r * 2 + 1,none⟩ = some (.slice fa fl fc) ∧ wz.cell? ⟨b2,o2 + i * 4,none⟩ = some (.int .i64 mn) ∧ wz.cell? ⟨b2,o2 + i * 4 + 1,none⟩ = some (.slice a1 n1 q1) ∧ wz.cell? ⟨b2,o2 + i * 4 + 2,none⟩ = some (.slice a2 n2 q2) ∧ wz.cell? ⟨b2,o2 + i * 4 + 3,none⟩ = some (.slice a3 n3 q3) ∧ wz.cell? ⟨b3,o3 + jn * 6,none⟩ = some (.string name) ∧ wz.cell? ⟨b3,o3 + jn * 6 + 1,none⟩ = some (.int .i64 number) ∧ wz.cell? ⟨b3,o3 + jn * 6 + 2,none⟩ = some (.int .i64 kind) ∧ wz.cell? ⟨b3,o3 + jn * 6 + 3,none⟩ = some (.bool rep) ∧ wz.cell? ⟨b3,o3 + jn * 6 + 4,none⟩ = some (.bool packed) ∧ wz.cell? ⟨b3,o3 + jn * 6 + 5,none⟩ = some (.int .i64 of):=⟨below_keeps hbz _ _ k0.1,below_keeps hbz _ _ k0.2.1,below_keeps hbz _ _ k0.2.2.1,below_keeps hbz _ _ k0.2.2.2.1,below_keeps hbz _ _ k0.2.2.2.2.1,below_keeps hbz _ _ k0.2.2.2.2.2.1,below_keeps hbz _ _ k0.2.2.2.2.2.2.1,below_keeps hbz _ _ k0.2.2.2.2.2.2.2.1,below_keeps hbz _ _ k0.2.2.2.2.2.2.2.2.1,below_keeps hbz _ _ k0.2.2.2.2.2.2.2.2.2.1,below_keeps hbz _ _ k0.2.2.2.2.2.2.2.2.2.2.1,below_keeps hbz _ _ k0.2.2.2.2.2.2.2.2.2.2.2.1,below_keeps hbz _ _ k0.2.2.2.2.2.2.2.2.2.2.2.2⟩;have hBZ:=(Below.refl wr.heap.size wr).drew.trans hbz;have hBZW:=HBW.out.trans (hBZ.mono HBW.out.size);have hvo:=HIH.out wz ⟨name,number,kind,rep,packed,of⟩ _ _ m (HS.out.keep (below_keeps hBZW)) (VMsg.keep HM.out (below_keeps hBZW)) HFM.out.1 HNB.out HWM.out;simp only [Fld.val] at hvo;have HVO:=hid hvo;clear hvo;have HBZ:=hid hBZ;clear hbz hBZ hBZW) | (go_at_call 35;(with_reducible refine (HVO.out).mono ?_);rintro e w3 ⟨v3,rfl,hO3,hb3⟩;have k3:w3.cell? ⟨B,0,none⟩ = some (.slice va vn vc) ∧ w3.cell? ⟨b,o + r * 2,none⟩ = some (.string nm) ∧ w3.cell? ⟨b,o + r * 2 + 1,none⟩ = some (.slice fa fl fc) ∧ w3.cell? ⟨b2,o2 + i * 4,none⟩ = some (.int .i64 mn) ∧ w3.cell? ⟨b2,o2 + i * 4 + 1,none⟩ = some (.slice a1 n1 q1) ∧ w3.cell? ⟨b2,o2 + i * 4 + 2,none⟩ = some (.slice a2 n2 q2) ∧ w3.cell? ⟨b2,o2 + i * 4 + 3,none⟩ = some (.slice a3 n3 q3) ∧ w3.cell? ⟨b3,o3 + jn * 6,none⟩ = some (.string name) ∧ w3.cell? ⟨b3,o3 + jn * 6 + 1,none⟩ = some (.int .i64 number) ∧ w3.cell? ⟨b3,o3 + jn * 6 + 2,none⟩ = some (.int .i64 kind) ∧ w3.cell? ⟨b3,o3 + jn * 6 + 3,none⟩ = some (.bool rep) ∧ w3.cell? ⟨b3,o3 + jn * 6 + 4,none⟩ = some (.bool packed) ∧ w3.cell? ⟨b3,o3 + jn * 6 + 5,none⟩ = some (.int .i64 of):=⟨below_keeps hb3 _ _ kz.1,below_keeps hb3 _ _ kz.2.1,below_keeps hb3 _ _ kz.2.2.1,below_keeps hb3 _ _ kz.2.2.2.1,below_keeps hb3 _ _ kz.2.2.2.2.1,below_keeps hb3 _ _ kz.2.2.2.2.2.1,below_keeps hb3 _ _ kz.2.2.2.2.2.2.1,below_keeps hb3 _ _ kz.2.2.2.2.2.2.2.1,below_keeps hb3 _ _ kz.2.2.2.2.2.2.2.2.1,below_keeps hb3 _ _ kz.2.2.2.2.2.2.2.2.2.1,below_keeps hb3 _ _ kz.2.2.2.2.2.2.2.2.2.2.1,below_keeps hb3 _ _ kz.2.2.2.2.2.2.2.2.2.2.2.1,below_keeps hb3 _ _ kz.2.2.2.2.2.2.2.2.2.2.2.2⟩;have hB3:=HBZ.out.trans (hb3.mono HBZ.out.size);have hln:=HFM.out.2;rw [HFVM.out] at hln;obtain ⟨v4,w4,hr4,hO4,hg4,-⟩:=own_append (HI.out.1.below_of hB3) (hO3.bytes (by omega)) hln (by have:=HI.out.2.size;have:=hB3.size;omega);have hB4:=own_grown (HI.out.1.below_of hB3) (HI.out.2.trans (hB3.mono HI.out.2.size)) hg4;have h1:=HK1.out.below hB4;rw [HL1.out] at h1;have hkk:=below_keeps (HB1.out.trans (hB4.mono HB1.out.size));have k4:w4.cell? ⟨B,0,none⟩ = some (.slice va vn vc) ∧ w4.cell? ⟨b,o + r * 2,none⟩ = some (.string nm) ∧ w4.cell? ⟨b,o + r * 2 + 1,none⟩ = some (.slice fa fl fc) ∧ w4.cell? ⟨b2,o2 + i * 4,none⟩ = some (.int .i64 mn) ∧ w4.cell? ⟨b2,o2 + i * 4 + 1,none⟩ = some (.slice a1 n1 q1) ∧ w4.cell? ⟨b2,o2 + i * 4 + 2,none⟩ = some (.slice a2 n2 q2) ∧ w4.cell? ⟨b2,o2 + i * 4 + 3,none⟩ = some (.slice a3 n3 q3) ∧ w4.cell? ⟨b3,o3 + jn * 6,none⟩ = some (.string name) ∧ w4.cell? ⟨b3,o3 + jn * 6 + 1,none⟩ = some (.int .i64 number) ∧ w4.cell? ⟨b3,o3 + jn * 6 + 2,none⟩ = some (.int .i64 kind) ∧ w4.cell? ⟨b3,o3 + jn * 6 + 3,none⟩ = some (.bool rep) ∧ w4.cell? ⟨b3,o3 + jn * 6 + 4,none⟩ = some (.bool packed) ∧ w4.cell? ⟨b3,o3 + jn * 6 + 5,none⟩ = some (.int .i64 of):=⟨h1.cell 0 _ rfl,hkk _ _ hc0,hkk _ _ hc1,hkk _ _ HGG.out.1,hkk _ _ HGG.out.2.1,hkk _ _ HGG.out.2.2.1,hkk _ _ HGG.out.2.2.2,hkk _ _ HFF.out.1,hkk _ _ HFF.out.2.1,hkk _ _ HFF.out.2.2.1,hkk _ _ HFF.out.2.2.2.1,hkk _ _ HFF.out.2.2.2.2.1,hkk _ _ HFF.out.2.2.2.2.2⟩;have HR4:=hid hr4;have HO4:=hid hO4;have HB4:=hid hB4;clear hr4 hO4 hg4 hB4 h1 hO3 hb3 hB3 hln hkk) | (refine step_append_eq rfl (.tmp 17) (.tmp 42) _ rfl _ _ rfl rfl HR4.out ?_))
   go_wp2_with fail
   go_roundw
   case rel => exact ⟨i + 1,by go_num,hlt,by rw [HTK.out,HFVM.out];exact HO4.out,HB4.out⟩
   case measure => simp [intOf];omega
  ·
   obtain rfl:i = vn:=by omega
   rw [List.take_of_length_le (by rw [HVN.out];exact Nat.le_refl _)] at HI
   obtain ⟨A,HAE⟩:∃ A,Hid (A = (M.vals x).flatMap FV):=⟨_,rfl⟩
   rw [← HAE.out] at HI HENC
   go_wp2_with fail
   have HI1:=hid (And.intro HI.out.1 HI.out.2)
   clear l1 c0
   go_loopw [7,9] (fun v7 v9 wq => ∃ (j:Nat),v9 = .int .i64 j ∧ j ≤ un ∧ Hid (Own wq W2.heap.size v7 (A ++ ((M.unk x).take j).flatMap id) ∧ Below W2.heap.size W2 wq)) (fun _ v9 _ => un - (intOf v9).toNat)
   case atStart => exact ⟨0,rfl,Nat.zero_le _,by simpa using HI1.out.1,HI1.out.2⟩
   case round =>
    obtain ⟨j,rfl,hj,HJ⟩:=hrel
    clear HI HI1 HBW
    have h1:=HK1.out.below HJ.out.2
    rw [HL1.out] at h1
    have l1:=h1.lt
    have c1:=h1.cell 1 _ rfl
    have HBW:Hid (Below w.heap.size w wr):=HB1.out.trans (HJ.out.2.mono HB1.out.size)
    clear h1
    by_cases hlt:j < un
    ·
     have hxi:(M.unk x)[j]? = some ((M.unk x)[j]'(by rw [← HUN.out];exact hlt)):=List.getElem?_eq_getElem _
     generalize (M.unk x)[j]'(by rw [← HUN.out];exact hlt) = z at hxi
     have hua:=HUA.out
     obtain ⟨hzl,b4,o4,ha4,g0⟩:=hua j z hxi
     have hU:strV z = .string ⟨z.toArray⟩:=rfl
     rw [hU] at g0
     replace g0:=below_keeps HBW.out _ _ g0
     have hbl4:b4 < wr.heap.size:=World.block_lt_of_cell? wr _ g0
     have hix4:=index_run1 Tryz.underlying58 size_str ha4 j hlt (cap:=uc)
     have HTK:=hid (flat_take_succ id (M.unk x) j z hxi)
     have hlen:(A ++ ((M.unk x).take j).flatMap id).length + z.length ≤ 140737488355328:=by
      have h1:=HEL.out
      rw [HENC.out,List.length_append] at h1
      have h2:=flat_take_len id (M.unk x) (j + 1)
      rw [HTK.out,List.length_append] at h2
      have h3:=HWT.out
      have e:(id z).length = z.length:=rfl
      rw [List.length_append]
      omega
     obtain ⟨v4,w4,hr4,hO4,hg4,-⟩:=own_append_str HJ.out.1 z hlen HJ.out.2.size
     have HB4:=hid (own_grown HJ.out.1 HJ.out.2 hg4)
     have HO4:=hid hO4
     have HR4:=hid hr4
     clear hua ha4 hxi hzl hU hlen hO4 hg4 hr4
     go_wp2_with (at_builtin;refine wpList_append2_eq rfl (.tmp 51) (.tmp 56) 24 9 rfl _ _ rfl rfl HR4.out ?_)
     go_roundw
     case rel => exact ⟨j + 1,by go_num,hlt,by rw [HTK.out,← List.append_assoc];exact HO4.out,HB4.out⟩
     case measure => simp [intOf];omega
    ·
     obtain rfl:j = un:=by omega
     rw [List.take_of_length_le (by rw [HUN.out];exact Nat.le_refl _)] at HJ
     go_wp2_with fail
     go_ret
     refine ⟨_,rfl,?_,HBW.out⟩
     rw [HENC.out]
     exact HJ.out.1.mono HB1.out.size
theorem ref16_EncOk {s:List Mes} (hs:sright s = true):∀ d,REncOk s d
 | 0 => fun _ _ _ _ _ _ h => h.elim
 | d + 1 => ref16_Encode_step hs (ref16_Value hs (ref16_EncOk hs d))
end Go.Proofs.YtphkmpnahnakaaaGreat
namespace Go.Proofs.YtphkmpnahnakaaaGreat
open Go.RowKit
set_option maxRecDepth 100000 in
set_option maxHeartbeats 4000000 in
theorem ref18_Form {w:World} {sv bv:Value} {s:List Mes} {l:List UInt8} (hs:sright s = true) (hS:SchemaAt w sv s) (hb:Bytes w bv l) (hl:l.length ≤ 1048576) {q d:Nat} (hq:q < s.length) (hv:(vmsg s d q l).2 = 0) :
  Calls Tryz.prog 11 #[sv,.int .i64 (q:Int),bv] w fun e w' => ∃ v',e = .returned v' ∧ Own w' w.heap.size v' (nform s d q l) ∧ Below w.heap.size w w':=by
 have HO:=hid (ref14_Of hS hs d q w bv l hq (Below.refl _ _) hb (by omega) hv)
 have hw:=tof_weight s d q l
 have hr:=tof_right hs d q l hq hv
 have HE:=hid (fun (W:World) (hW:Below w.heap.size w W) (v:Value) (hM:MsgAt (d + 1) W v (tof s d q l)) => ref16_EncOk hs (d + 1) W (q:Int) v sv (tof s d q l) (hS.below hW) hM hr (by omega))
 obtain ⟨x,HX⟩:∃ x,Hid (x = tof s d q l):=⟨_,rfl⟩
 obtain ⟨F,HF⟩:∃ F,Hid (F = nform s d q l):=⟨_,rfl⟩
 have HFE:Hid (F = encM s (d + 1) (q:Int) x):=by rw [HF.out,HX.out];rfl
 rw [← HX.out] at HO HE
 rw [← HF.out]
 rw [← HFE.out] at HE
 obtain ⟨-,sa,sc,rfl,-⟩:=hS.open
 obtain ⟨-,a,c,rfl,-⟩:=hb.open
 generalize s.length = sn at *
 generalize l.length = n at *
 obtain ⟨Q,HQ⟩:∃ Q:Ending → World → Prop,Hid (Q = fun e w' => ∃ v',e = .returned v' ∧ Own w' w.heap.size v' F ∧ Below w.heap.size w w'):=⟨_,rfl⟩
 rw [← HQ.out]
 clear hS hb hs hl hq hv hw hr HX HFE HF
 go_enter Tryz.func11,Tryz.ntmps11
 go_wp2_with fail
 refine HO.out.mono ?_
 rintro e w1 ⟨v1,rfl,hb1,hap⟩
 have hM:=hap.here
 have HE1:=hid (HE.out w1 hb1 v1 hM)
 obtain ⟨u1,u2,rfl,-,-⟩:=hM
 have HB1:=hid hb1
 clear hap hb1 HO HE
 go_wp2_with fail
 refine HE1.out.mono ?_
 rintro e w2 ⟨v2,rfl,hO2,hb2⟩
 obtain ⟨a2,c2,rfl⟩:=own_form hO2
 have HEND:Hid (Q (.returned (.slice a2 F.length c2)) w2):=by
  rw [HQ.out]
  exact ⟨_,rfl,hO2.mono HB1.out.size,HB1.out.trans (hb2.mono HB1.out.size)⟩
 obtain ⟨n2,HN2⟩:∃ n,Hid (n = F.length):=⟨_,rfl⟩
 rw [← HN2.out] at HEND ⊢
 clear hO2 hb2 HE1
 go_wp2_with fail
 exact HEND.out
end Go.Proofs.YtphkmpnahnakaaaGreat
namespace Go.Proofs.YtphkmpnahnakaaaGreat
open Go.RowKit
theorem vloop_code (rec:Nat → List UInt8 → Nat × Nat) (deep:Bool) (fs:List Fld) (l:List UInt8) (hrec:∀ o x,(rec o x).2 < 256):∀ (k i:Nat),(vloop rec deep fs l k i).2 < 256
 | 0,_ => by rw [vloop];decide
 | k + 1,i => by
  rw [vloop]
  by_cases hi:l.length ≤ i
  ·
   rw [if_pos hi];decide
  rw [if_neg hi]
  have hv:(vlook fs l i).2.2.2 < 256 ∧ (vval rec deep fs l (vlook fs l i)).2 < 256:=by
   rcases vlook_cases fs l i with ⟨c,h,e,h2⟩ | ⟨r,h1,h2,h3,h4,-,e | ⟨j,run,-,e,-⟩⟩
   ·
    rw [e]
    refine ⟨h2,?_⟩
    unfold vval
    rw [if_neg (by simp)]
    simp only [Bool.false_eq_true,if_false]
    split
    ·
     split <;> simp
    ·
     split
     ·
      split
      ·
       simp
      ·
       exact hrec _ _
     ·
      simp
   ·
    rw [e];exact ⟨by simp,by simp [vval]⟩
   ·
    rw [e]
    refine ⟨by simp,?_⟩
    unfold vval
    rw [if_neg (by show ¬ ((j:Int) < 0);omega)]
    simp only [Int.toNat_natCast]
    split
    ·
     have:=runCount_lt (kwire (fs.getD j .zero).kind) (part l r.at' r.to)
     show (runCount _ _).2 < 256;omega
    ·
     split
     ·
      split <;> simp
     ·
      split
      ·
       split
       ·
        simp
       ·
        exact hrec _ _
      ·
       simp
  by_cases hc:(vlook fs l i).2.2.2 ≠ 0
  ·
   rw [if_pos hc];exact hv.1
  rw [if_neg hc]
  by_cases hv2:(vval rec deep fs l (vlook fs l i)).2 ≠ 0
  ·
   rw [if_pos hv2];exact hv.2
  ·
   rw [if_neg hv2];exact vloop_code rec deep fs l hrec k _
theorem vmsg_code (s:List Mes):∀ (d m:Nat) (l:List UInt8),(vmsg s d m l).2 < 256
 | 0,m,l => vloop_code _ _ _ l (fun _ _ => by decide) _ _
 | d + 1,m,l => vloop_code _ _ _ l (vmsg_code s d) _ _
theorem vcheck_code (s:List Mes) (root:Int) (l:List UInt8) (d:Int):(vcheck s root l d).2 < 256:=by
 unfold vcheck
 by_cases h:argsCode s root d ≠ 0
 ·
  rw [if_pos h];have:=args_cases s root d;show argsCode s root d < 256;omega
 ·
  rw [if_neg h];exact vmsg_code _ _ _ _
end Go.Proofs.YtphkmpnahnakaaaGreat
