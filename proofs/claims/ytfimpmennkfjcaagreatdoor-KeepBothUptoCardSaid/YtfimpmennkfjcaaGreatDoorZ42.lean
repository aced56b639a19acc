/- keep.parts, named, Paths, Without: partsC, namedC. At most 2^30 bytes; paths of at most 2^40 bytes. darninglaw19.alive: true. No condition. slices.DeleteFunc of views; view.those, view.Of. At most 2^40 views. view.those, view.Of. At most 2^40 bytes. -/
import Derived.Test.YtfimpmennkfjcaaGreatDoorZ29
import Derived.Test.YtfimpmennkfjcaaGreatDoorZ32
import Derived.Test.YtfimpmennkfjcaaGreatDoorZ37
import Derived.Test.YtfimpmennkfjcaaGreatDoorZ41
namespace Go.Proofs.YtfimpmennkfjcaaGreatDoor
open Go.RowKit Go.Shelf
def KPost (w:World) (x:Nat × List UInt8) (e:Ending) (w':World):Prop:=∃ v',e = .returned (.tuple #[v',.int .u8 (x.1:Nat)]) ∧ Own w' w.heap.size v' x.2 ∧ Below w.heap.size w w'
set_option maxRecDepth 100000 in
set_option maxHeartbeats 4000000 in
theorem keep_parts {w:World} {sv bv mv:Value} {s:List Mes} {b:List UInt8} {ws:List (List Int)} (hS:SchemaAt w sv s) (hb:Bytes w bv b) (hl:b.length ≤ 1073741824) (hM:WaysAt w mv ws) (hL:LightW ws) (hL2:∀ l ∈ ws,l.length ≤ 1073741824) (root d:Int) (keep:Bool) :
  Calls Tryz.prog 31 #[sv,.int .i64 root,bv,.int .i64 d,maskV mv,.bool keep] w (KPost w (partsC s root d b ws keep)):=by
 unfold maskV
 obtain ⟨X,HX⟩:∃ X,Hid (X = w.heap.size):=⟨_,rfl⟩
 obtain ⟨W1,HW1⟩:∃ W1,Hid (W1 = w.alloc (.cells #[mv] 37)):=⟨_,rfl⟩
 have hb1:Below w.heap.size w W1:=by rw [HW1.out];exact (Below.refl _ _).alloc (Nat.le_refl _) _
 have hk1:Blk W1 X [mv] 37:=by rw [HW1.out,HX.out];exact Blk.new w [mv] _
 have HB1:=hid hb1
 have HK1:=hid hk1
 have HS:=hid hS
 have HB:=hid hb
 have HM:=hid (And.intro hM (And.intro hL hL2))
 have HL:=hid hl
 have HC:=hid (valid_Check (hS.below hb1) (hb.below hb1) root d)
 obtain ⟨-,sa,sc,rfl,-⟩:=hS.open
 obtain ⟨-,a,c,rfl,-⟩:=hb.open
 obtain ⟨-,ma,mc,rfl,-,-⟩:=hM.open
 obtain ⟨sn,HSN⟩:∃ n,Hid (n = s.length):=⟨_,rfl⟩
 obtain ⟨n,HN⟩:∃ n,Hid (n = b.length):=⟨_,rfl⟩
 obtain ⟨mn,HMN⟩:∃ n,Hid (n = ws.length):=⟨_,rfl⟩
 rw [← HSN.out] at HS HC ⊢
 rw [← HN.out] at HB HC ⊢
 rw [← HMN.out] at HM HK1 HW1 ⊢
 obtain ⟨p,HP⟩:∃ p,Hid (p = (vcheck s root b d).1):=⟨_,rfl⟩
 obtain ⟨z,HZ⟩:∃ z,Hid (z = (vcheck s root b d).2):=⟨_,rfl⟩
 rw [← HP.out,← HZ.out] at HC
 obtain ⟨Q,HQ⟩:∃ Q:Ending → World → Prop,Hid (Q = KPost w (partsC s root d b ws keep)):=⟨_,rfl⟩
 rw [← HQ.out]
 clear hS hb hM hL hL2 hl hb1 hk1
 by_cases hz:z = 0
 ·
  subst hz
  obtain ⟨cp,HCP⟩:∃ c,Hid (c = (pathsC s root ws).1):=⟨_,rfl⟩
  have HMP:Hid (∀ W,Below w.heap.size w W → Calls Tryz.prog 58 #[.slice sa sn sc,.int .i64 root,.agg #[.slice ma mn mc]] W fun e w' => ∃ v',e = .returned (.tuple #[v',.int .u8 (cp:Nat)]) ∧ Below W.heap.size W w'):=fun W hW => by
   have h:=mask_Paths (HS.out.below hW) root (HM.out.1.below hW) HM.out.2.1 HM.out.2.2
   unfold maskV PathsPost at h
   rw [← HCP.out] at h
   exact h.mono fun e w' ⟨v',h1,_,h2⟩ => ⟨v',h1,h2⟩
  go_enter Tryz.func31,Tryz.ntmps31
  go_upto_region 1 with fail
  rw [← HW1.out,← HX.out]
  go_wp2_with fail
  refine HC.out.mono ?_
  rintro e w2 ⟨rfl,hb2⟩
  have HK2:=hid (HK1.out.below hb2)
  have HB2:=hid (HB1.out.trans (hb2.mono HB1.out.size))
  have k0:=HK2.out.cell 0 _ rfl
  have kl:=HK2.out.lt
  clear hb2
  go_wp2_with fail
  refine (HMP.out w2 HB2.out).mono ?_
  rintro e w3 ⟨v3,rfl,hb3⟩
  have HK3:=hid (HK2.out.below hb3)
  have HB3:=hid (HB2.out.trans (hb3.mono HB2.out.size))
  clear k0 kl hb3
  by_cases hcp:cp = 0
  ·
   subst hcp
   have hargs:argsCode s root d = 0:=by
    have h:=HZ.out.symm
    unfold vcheck at h
    by_cases h0:argsCode s root d = 0
    ·
     exact h0
    ·
     rw [if_pos h0] at h;exact absurd h h0
   obtain ⟨g1,g2,g3,g4,g5⟩:=args_ok hargs
   have hv:(vmsg s d.toNat root.toNat b).2 = 0:=by rw [← vcheck_of hargs];exact HZ.out.symm
   obtain ⟨r,rfl⟩:∃ r:Nat,root = r:=⟨root.toNat,by omega⟩
   rw [Int.toNat_natCast] at hv
   have HPC:Hid (partsC s (r:Int) d b ws keep = (0,kpart s keep d.toNat r (mOf ws) b)):=by
    rw [Hid,partsC,if_neg (by rw [← HZ.out];simp),if_neg (by rw [← HCP.out];simp),Int.toNat_natCast]
   have HPT:=hid (keep_part g1 (HS.out.below HB3.out) keep d.toNat r w3 (.slice a n c) (.slice ma mn mc) b ws (by omega) (Below.refl _ _) (HB.out.below HB3.out) HL.out (HM.out.1.below HB3.out) HM.out.2.1 hv)
   unfold maskV at HPT
   have k0:=HK3.out.cell 0 _ rfl
   have kl:=HK3.out.lt
   clear hargs g1 g2 g3 g4 g5 hv HC HMP
   go_wp2_with fail
   refine HPT.out.mono ?_
   rintro e w4 ⟨v4,rfl,hO,hb4⟩
   have HE:Hid (Q (.returned (.tuple #[v4,.int .u8 0])) w4):=by
    rw [HQ.out,HPC.out]
    exact ⟨v4,rfl,hO.mono HB3.out.size,HB3.out.trans (hb4.mono HB3.out.size)⟩
   clear hO hb4 k0 kl
   go_wp2_with fail
   exact HE.out
  ·
   have e1:((cp:Int) != 0) = true:=by simpa using hcp
   have e2:((cp:Int) == 0) = false:=by simpa using hcp
   have HE:Hid (Q (.returned (.tuple #[.slice none 0 0,.int .u8 10])) w3):=by
    rw [HQ.out]
    unfold KPost partsC
    rw [if_neg (by rw [← HZ.out];simp),if_pos (by rw [← HCP.out];exact hcp)]
    exact ⟨_,rfl,own_nil _ _,HB3.out⟩
   go_wp2_with fail
   exact HE.out
 ·
  have e1:((z:Int) != 0) = true:=by simpa using hz
  have e2:((z:Int) == 0) = false:=by simpa using hz
  go_enter Tryz.func31,Tryz.ntmps31
  go_upto_region 1 with fail
  rw [← HW1.out,← HX.out]
  go_wp2_with fail
  refine HC.out.mono ?_
  rintro e w2 ⟨rfl,hb2⟩
  have HE:Hid (Q (.returned (.tuple #[.slice none 0 0,.int .u8 (z:Nat)])) w2):=by
   rw [HQ.out]
   unfold KPost partsC
   rw [if_pos (by rw [← HZ.out];exact hz),← HZ.out]
   exact ⟨_,rfl,own_nil _ _,HB1.out.trans (hb2.mono HB1.out.size)⟩
  clear hb2
  go_wp2_with fail
  exact HE.out
theorem make_light {s:List Mes} {root:Int} {ps:List (List UInt8)} (h:(makeC s root ps).1 = 0):LightW (makeC s root ps).2 ∧ ∀ l ∈ (makeC s root ps).2,l.length ≤ 1073741824:=by
 obtain ⟨h1,h2,a,h3,h4⟩:=make_ok h
 obtain ⟨g1,g2⟩:=waysOf_light h3
 rw [h4]
 have hl:LightW a:=⟨by omega,fun l hl => by have:=g2 l hl;omega⟩
 refine ⟨mOf_light hl,fun l hl => ?_⟩
 have:=g2 l (((mOf_mask a).2 l).1 hl).1
 omega
set_option maxRecDepth 100000 in
set_option maxHeartbeats 4000000 in
theorem keep_named {w:World} {sv bv pv:Value} {s:List Mes} {b:List UInt8} {ps:List (List UInt8)} (hS:SchemaAt w sv s) (hb:Bytes w bv b) (hl:b.length ≤ 1073741824) (hP:StrsAt w pv ps) (hpl:∀ p ∈ ps,p.length ≤ 1099511627776) (root d:Int) (keep:Bool) :
  Calls Tryz.prog 30 #[sv,.int .i64 root,bv,.int .i64 d,pv,.bool keep] w (KPost w (namedC s root d b ps keep)):=by
 have HS:=hid hS
 have HB:=hid hb
 have HP:=hid (And.intro hP hpl)
 have HL:=hid hl
 have HA:=hid (valid_Args hS root d)
 obtain ⟨-,sa,sc,rfl,-⟩:=hS.open
 obtain ⟨-,a,c,rfl,-⟩:=hb.open
 obtain ⟨-,pa,pc,rfl,-,-⟩:=hP.open
 obtain ⟨sn,HSN⟩:∃ n,Hid (n = s.length):=⟨_,rfl⟩
 obtain ⟨n,HN⟩:∃ n,Hid (n = b.length):=⟨_,rfl⟩
 obtain ⟨pn,HPN⟩:∃ n,Hid (n = ps.length):=⟨_,rfl⟩
 rw [← HSN.out] at HS HA ⊢
 rw [← HN.out] at HB ⊢
 rw [← HPN.out] at HP ⊢
 obtain ⟨z,HZ⟩:∃ z,Hid (z = argsCode s root d):=⟨_,rfl⟩
 rw [← HZ.out] at HA
 obtain ⟨Q,HQ⟩:∃ Q:Ending → World → Prop,Hid (Q = KPost w (namedC s root d b ps keep)):=⟨_,rfl⟩
 rw [← HQ.out]
 clear hS hb hP hpl hl
 by_cases hz:z = 0
 ·
  subst hz
  obtain ⟨cm,HCM⟩:∃ c,Hid (c = (makeC s root ps).1):=⟨_,rfl⟩
  go_enter Tryz.func30,Tryz.ntmps30
  go_wp2_with fail
  refine HA.out.mono ?_
  rintro e w1 ⟨rfl,hb1⟩
  have HB1:=hid hb1
  have HMK:=hid (mask_Make (HS.out.below hb1) root (HP.out.1.keep (below_keeps hb1)) HP.out.2)
  unfold MakePost at HMK
  rw [← HCM.out] at HMK
  clear hb1
  go_wp2_with fail
  refine HMK.out.mono ?_
  rintro e w2 ⟨v2,rfl,hN,hb2⟩
  obtain ⟨-,ma,mc,rfl,-,-⟩:=hN.here.open
  obtain ⟨mn,HMN⟩:∃ n,Hid (n = (makeC s root ps).2.length):=⟨_,rfl⟩
  rw [← HMN.out] at hN ⊢
  unfold maskV
  obtain ⟨X,HX⟩:∃ X,Hid (X = w2.heap.size):=⟨_,rfl⟩
  obtain ⟨W3,HW3⟩:∃ W,Hid (W = w2.alloc (.cells #[.slice ma mn mc] 37)):=⟨_,rfl⟩
  have hb3:Below w2.heap.size w2 W3:=by rw [HW3.out];exact (Below.refl _ _).alloc (Nat.le_refl _) _
  have hk3:Blk W3 X [.slice ma mn mc] 37:=by rw [HW3.out,HX.out];exact Blk.new w2 [.slice ma mn mc] _
  have HB3:=hid ((HB1.out.trans (hb2.mono HB1.out.size)).trans (hb3.mono (HB1.out.trans (hb2.mono HB1.out.size)).size))
  have HN3:=hid (hN.here.below hb3)
  have HK3:=hid hk3
  clear hN hb2 hb3 hk3
  by_cases hcm:cm = 0
  ·
   subst hcm
   obtain ⟨hl1,hl2⟩:=make_light HCM.out.symm
   have HPT:=hid (keep_parts (HS.out.below HB3.out) (HB.out.below HB3.out) HL.out HN3.out hl1 hl2 root d keep)
   unfold maskV at HPT
   have HNC:Hid (namedC s root d b ps keep = partsC s root d b (makeC s root ps).2 keep):=by
    rw [Hid,namedC,if_neg (by rw [← HZ.out];simp),if_neg (by rw [← HCM.out];simp)]
   clear hl1 hl2 HA HMK
   go_upto_region 7 with fail
   rw [← HW3.out,← HX.out]
   have k0:=HK3.out.cell 0 _ rfl
   have kl:=HK3.out.lt
   go_wp2_with fail
   refine HPT.out.mono ?_
   rintro e w4 ⟨v4,rfl,hO,hb4⟩
   have HE:Hid (Q (.returned (.tuple #[v4,.int .u8 ((partsC s root d b (makeC s root ps).2 keep).1:Nat)])) w4):=by
    rw [HQ.out,HNC.out]
    exact ⟨v4,rfl,hO.mono HB3.out.size,HB3.out.trans (hb4.mono HB3.out.size)⟩
   generalize (partsC s root d b (makeC s root ps).2 keep).1 = pc at *
   clear hO hb4 k0 kl
   go_wp2_with fail
   exact HE.out
  ·
   have e1:((cm:Int) != 0) = true:=by simpa using hcm
   have e2:((cm:Int) == 0) = false:=by simpa using hcm
   have HE:Hid (Q (.returned (.tuple #[.slice none 0 0,.int .u8 (cm:Nat)])) W3):=by
    rw [HQ.out]
    unfold KPost namedC
    rw [if_neg (by rw [← HZ.out];simp),if_pos (by rw [← HCM.out];exact hcm),← HCM.out]
    exact ⟨_,rfl,own_nil _ _,HB3.out⟩
   go_upto_region 5 with fail
   rw [← HW3.out,← HX.out]
   go_wp2_with fail
   exact HE.out
 ·
  have e1:((z:Int) != 0) = true:=by simpa using hz
  have e2:((z:Int) == 0) = false:=by simpa using hz
  go_enter Tryz.func30,Tryz.ntmps30
  go_wp2_with fail
  refine HA.out.mono ?_
  rintro e w2 ⟨rfl,hb2⟩
  have HE:Hid (Q (.returned (.tuple #[.slice none 0 0,.int .u8 (z:Nat)])) w2):=by
   rw [HQ.out]
   unfold KPost namedC
   rw [if_pos (by rw [← HZ.out];exact hz),← HZ.out]
   exact ⟨_,rfl,own_nil _ _,hb2⟩
  clear hb2
  go_wp2_with fail
  exact HE.out
set_option maxRecDepth 100000 in
set_option maxHeartbeats 4000000 in
theorem keep_Without {w:World} {sv bv pv:Value} {s:List Mes} {b:List UInt8} {ps:List (List UInt8)} (hS:SchemaAt w sv s) (hb:Bytes w bv b) (hl:b.length ≤ 1073741824) (hP:StrsAt w pv ps) (hpl:∀ p ∈ ps,p.length ≤ 1099511627776) (root d:Int) :
  Calls Tryz.prog 10 #[sv,.int .i64 root,bv,.int .i64 d,pv] w (KPost w (namedC s root d b ps false)):=by
 have HN:=hid (keep_named hS hb hl hP hpl root d false)
 obtain ⟨-,sa,sc,rfl,-⟩:=hS.open
 obtain ⟨-,a,c,rfl,-⟩:=hb.open
 obtain ⟨-,pa,pc,rfl,-,-⟩:=hP.open
 obtain ⟨Q,HQ⟩:∃ Q:Ending → World → Prop,Hid (Q = KPost w (namedC s root d b ps false)):=⟨_,rfl⟩
 rw [← HQ.out] at HN ⊢
 generalize s.length = sn at *
 generalize b.length = bn at *
 generalize ps.length = pn at *
 have HN2:Hid (Calls Tryz.prog 30 #[.slice sa sn sc,.int .i64 root,.slice a bn c,.int .i64 d,.slice pa pn pc,.bool false] w fun e w' => ∃ v' z,e = .returned (.tuple #[v',.int .u8 z]) ∧ Q (.returned (.tuple #[v',.int .u8 z])) w'):=by
  refine HN.out.mono fun e w' h => ?_
  have h':=h
  rw [HQ.out] at h'
  obtain ⟨v',he,-⟩:=h'
  subst he
  exact ⟨v',_,rfl,h⟩
 clear hS hb hP HN HQ hl
 go_enter Tryz.func10,Tryz.ntmps10
 go_wp2_with fail
 refine HN2.out.mono ?_
 rintro e w1 ⟨v',z,rfl,h⟩
 have HE:=hid h
 clear h
 go_wp2_with fail
 exact HE.out
set_option maxRecDepth 100000 in
set_option maxHeartbeats 4000000 in
theorem keep_Paths {w:World} {sv bv pv:Value} {s:List Mes} {b:List UInt8} {ps:List (List UInt8)} (hS:SchemaAt w sv s) (hb:Bytes w bv b) (hl:b.length ≤ 1073741824) (hP:StrsAt w pv ps) (hpl:∀ p ∈ ps,p.length ≤ 1099511627776) (root d:Int) :
  Calls Tryz.prog 22 #[sv,.int .i64 root,bv,.int .i64 d,pv] w (KPost w (namedC s root d b ps true)):=by
 have HN:=hid (keep_named hS hb hl hP hpl root d true)
 obtain ⟨-,sa,sc,rfl,-⟩:=hS.open
 obtain ⟨-,a,c,rfl,-⟩:=hb.open
 obtain ⟨-,pa,pc,rfl,-,-⟩:=hP.open
 obtain ⟨Q,HQ⟩:∃ Q:Ending → World → Prop,Hid (Q = KPost w (namedC s root d b ps true)):=⟨_,rfl⟩
 rw [← HQ.out] at HN ⊢
 generalize s.length = sn at *
 generalize b.length = bn at *
 generalize ps.length = pn at *
 have HN2:Hid (Calls Tryz.prog 30 #[.slice sa sn sc,.int .i64 root,.slice a bn c,.int .i64 d,.slice pa pn pc,.bool true] w fun e w' => ∃ v' z,e = .returned (.tuple #[v',.int .u8 z]) ∧ Q (.returned (.tuple #[v',.int .u8 z])) w'):=by
  refine HN.out.mono fun e w' h => ?_
  have h':=h
  rw [HQ.out] at h'
  obtain ⟨v',he,-⟩:=h'
  subst he
  exact ⟨v',_,rfl,h⟩
 clear hS hb hP HN HQ hl
 go_enter Tryz.func22,Tryz.ntmps22
 go_wp2_with fail
 refine HN2.out.mono ?_
 rintro e w1 ⟨v',z,rfl,h⟩
 have HE:=hid h
 clear h
 go_wp2_with fail
 exact HE.out
end Go.Proofs.YtfimpmennkfjcaaGreatDoor
namespace Go.Proofs.YtfimpmennkfjcaaGreatDoor
open Go.RowKit
def s19:List Mes:=[⟨⟨#[109]⟩,[⟨⟨#[97]⟩,1,17,false,false,0⟩]⟩]
def p19:List (List UInt8):=[[97,46,97]]
theorem kept19:namedC s19 0 1 [10,2,16,1] p19 true = (0,[10,0]):=by decide +kernel
theorem left19:namedC s19 0 1 [10,2,16,1] p19 false = (0,[10,2,16,1]):=by decide +kernel
set_option maxRecDepth 100000 in
set_option maxHeartbeats 4000000 in
theorem law19_alive (w:World):Calls Tryz.prog 7 #[] w fun e w' => e = .returned (.bool true) ∧ Below w.heap.size w w':=by
 obtain ⟨X,HX⟩:∃ X,Hid (X = w.heap.size):=⟨_,rfl⟩
 obtain ⟨W,HW⟩:∃ W,Hid (W = ((w.alloc (.cells #[.string ⟨#[97]⟩,.int .i64 1,.int .i64 17,.bool false,.bool false,.int .i64 0] 64)).alloc (.cells #[.string ⟨#[109]⟩,.slice (some ⟨X,0,none⟩) 1 1] 67)).alloc (.cells #[.int .u8 10,.int .u8 2,.int .u8 16,.int .u8 1] 5)):=⟨_,rfl⟩
 have hS:SchemaAt W (.slice (some ⟨X + 1,0,none⟩) 1 1) s19:=by
  rw [HW.out,HX.out]
  refine schema_one (Blk.alloc (Blk.new' _ [.string ⟨#[109]⟩,.slice (some ⟨w.heap.size,0,none⟩) 1 1] _ _ (by simp)) _) (by decide) ?_
  refine fields_blk (Blk.alloc (Blk.alloc (Blk.new w _ _) _) _) 1 rfl (by omega) ?_
  intro f hf
  simp at hf
  rcases hf with rfl
  exact ⟨by decide,by decide,by decide,by decide⟩
 have hb:Bytes W (.slice (some ⟨X + 1 + 1,0,none⟩) 4 4) [10,2,16,1]:=by
  rw [HW.out,HX.out]
  exact seg_blk (Blk.new' _ ([10,2,16,1].map byteV) 5 _ (by simp)) 1 4 rfl (by omega)
 have hB:Below w.heap.size w W:=by rw [HW.out];(repeat (first | with_reducible exact Below.refl _ _ | with_reducible refine Below.setCell ?_ (by first | omega | (simp;omega) | (simp;done)) _ | with_reducible refine Below.alloc ?_ (by first | omega | (simp;omega) | (simp;done)) _ | with_reducible refine below_drewN ?_ _ | with_reducible refine Below.drew ?_))
 have HS:=hid hS
 have HB:=hid hB
 have HBY:=hid hb
 have HZ:Hid (W.heap.size = X + 1 + 1 + 1):=by rw [Hid,HW.out,HX.out];simp
 have HSTR:Hid (∀ V:World,StrsAt (V.alloc (.cells #[.string ⟨#[97,46,97]⟩] 9)) (.slice (some ⟨V.heap.size,0,none⟩) 1 1) p19):=fun V =>
  ⟨seg_blk (Blk.new V (p19.map strV) 9) 1 1 rfl (by omega),by decide⟩
 clear hS hb hB
 go_enter Tryz.func7,Tryz.ntmps7
 go_upto_region 3 with fail
 rw [← HX.out,← HW.out]
 obtain ⟨W1,HW1⟩:∃ W1,Hid (W1 = W.alloc (.cells #[.string ⟨#[97,46,97]⟩] 9)):=⟨_,rfl⟩
 have hb1:Below W.heap.size W W1:=by rw [HW1.out];exact (Below.refl _ _).alloc (Nat.le_refl _) _
 have hP1:=HSTR.out W
 rw [← HW1.out] at hP1
 have HB1:=hid (HB.out.trans (hb1.mono HB.out.size))
 have HBW1:=hid hb1
 have HK:=hid (keep_Paths (HS.out.below hb1) (HBY.out.below hb1) (by decide) hP1 (by decide) 0 1)
 rw [kept19] at HK
 clear hb1 hP1
 go_wp2_with fail
 rw [← HW1.out]
 refine HK.out.mono ?_
 rintro e w2 ⟨v2,rfl,hO2,hb2⟩
 obtain ⟨xa,xc,rfl⟩:=hO2.form
 have HB2:=hid (HBW1.out.trans (hb2.mono HBW1.out.size))
 have HX2:=hid (hO2.bytes (by decide))
 clear hO2 hb2
 obtain ⟨W3,HW3⟩:∃ W1,Hid (W1 = w2.alloc (.cells #[.string ⟨#[97,46,97]⟩] 9)):=⟨_,rfl⟩
 have hb3:Below w2.heap.size w2 W3:=by rw [HW3.out];exact (Below.refl _ _).alloc (Nat.le_refl _) _
 have hP3:=HSTR.out w2
 rw [← HW3.out] at hP3
 have HB3:=hid (HB2.out.trans (hb3.mono HB2.out.size))
 have HX3:=hid (HX2.out.below hb3)
 have HK3:=hid (keep_Without (HS.out.below HB3.out) (HBY.out.below HB3.out) (by decide) hP3 (by decide) 0 1)
 rw [left19] at HK3
 clear hb3 hP3
 go_wp2_with fail
 rw [← HW3.out]
 refine HK3.out.mono ?_
 rintro e w4 ⟨v4,rfl,hO4,hb4⟩
 obtain ⟨ya,yc,rfl⟩:=hO4.form
 have HY4:=hid (hO4.bytes (by decide))
 have HX4:=hid (HX3.out.below hb4)
 have HB4:=hid (HB3.out.trans (hb4.mono HB3.out.size))
 clear hO4 hb4
 have hb5:Below w4.heap.size w4 (w4.alloc (.cells #[.int .u8 10,.int .u8 0] 5)):=(Below.refl _ _).alloc (Nat.le_refl _) _
 have HN5:Hid (Bytes (w4.alloc (.cells #[.int .u8 10,.int .u8 0] 5)) (.slice (some ⟨w4.heap.size,0,none⟩) 2 2) [10,0]):=bytes_new w4 5 #[.int .u8 10,.int .u8 0] [10,0] rfl (by simp)
 have HSM:=hid (ref01_Same (HX4.out.below hb5) HN5.out)
 have HSM2:=hid (ref01_Same (HY4.out.below hb5) (HBY.out.below (HB4.out.trans (hb5.mono HB4.out.size))))
 have HEND:=hid (HB.out.trans ((HB4.out.trans (hb5.mono HB4.out.size)).mono HB.out.size))
 clear hb5
 go_wp2_with fail
 refine HSM.out.mono ?_
 rintro e w6 ⟨rfl,rfl⟩
 go_wp2_with fail
 refine HSM2.out.mono ?_
 rintro e w7 ⟨rfl,rfl⟩
 go_wp2_with fail
 go_ret
 exact ⟨by simp,HEND.out⟩
end Go.Proofs.YtfimpmennkfjcaaGreatDoor
namespace Go.Proofs.YtfimpmennkfjcaaGreatDoor
open Go.RowKit
theorem wpList_clear_eq {P:Program} {w:World} {ops:Array Oper} {rest:List Oper} {o:Oper} {a:Act} {Q:Exit → Act → World → Prop} (hgd:o.guard = none) (x:Operand) (t:TypeId)
  (ho:o.op = .call { callee:=.builtin .clear,args:=#[x],argTypes:=#[t] }) (xv:Value) (hx:a.eval x = xv) {v':Value} {w':World}
  (hr:(Builtin.clear_ #[t] o.type #[xv]).run P w = .ok v' w') (h:wpList P ops Q rest (a.put o.dst v') w'):wpList P ops Q (o :: rest) a w:=
 wpList_plain hgd fun K hK => by
  unfold Oper.wp execOp
  simp only [ho,resolve,invoke,builtin,Sem.run_bind,Sem.run_pure,Result.andThen_ok,List.map_toArray,List.map_cons,List.map_nil,hx,hr]
  exact hK _ _ h
def DelPost (w:World) (base:Nat) (l:List VW) (e:Ending) (w':World):Prop:=∃ v',e = .returned v' ∧ OwnV w' base v' l ∧ Below base w w'
set_option maxRecDepth 100000 in
set_option maxHeartbeats 4000000 in
theorem deleteFunc_views {w:World} {base:Nat} {v:Value} {l:List VW} (h:OwnV w base v l) (hl:l.length ≤ 1099511627776) (hbase:base ≤ w.heap.size) (F:Nat) (cap:Array Value) (p:VW → Bool) (hcf:∀ (args:Array Value) (w:World),(callFunc F args).run Tryz.prog w = .ok (.enter F args) w)
  (hcl:∀ (x:VW) (wr:World),x ∈ l → Below base w wr → Calls Tryz.prog F (#[viewV x.r x.k x.run] ++ cap) wr fun e w' => e = .returned (.bool (p x)) ∧ Below wr.heap.size wr w') :
  Calls Tryz.prog 144 #[v,.func (.func F) #[] cap] w (DelPost w base (l.filter fun x => !p x)):=by
 obtain ⟨a,c,rfl⟩:=h.form
 have HIX:=hid (indexFunc_views (views_read (own_views h) hl) F cap p hcf fun x wr hx hb => hcl x wr hx (hb.mono hbase))
 obtain ⟨z,HZ⟩:∃ z,Hid (z = l.findIdx? p):=⟨_,rfl⟩
 rw [← HZ.out] at HIX
 obtain ⟨n,HN⟩:∃ n,Hid (n = l.length):=⟨_,rfl⟩
 rw [← HN.out] at HIX hl ⊢
 have HO:=hid h
 rw [← HN.out] at HO
 have HCL:=hid hcl
 have HBS:=hid hbase
 obtain ⟨Q,HQ⟩:∃ Q:Ending → World → Prop,Hid (Q = DelPost w base (l.filter fun x => !p x)):=⟨_,rfl⟩
 rw [← HQ.out]
 clear h hcl hbase
 unfold IdxPost at HIX
 cases z with
 | none =>
  have HE:Hid (∀ w',Below base w w' → Below w.heap.size w w' → Q (.returned (.slice a n c)) w'):=by
   intro w' hb hb2
   have hf:(l.filter fun x => !p x) = l:=by
    rw [List.filter_eq_self]
    intro x hx
    have:=List.findIdx?_eq_none_iff.1 HZ.out.symm x hx
    rw [this];rfl
   rw [HQ.out,hf]
   exact ⟨_,rfl,HO.out.below_of hb2,hb⟩
  simp only at HIX
  go_enter Tryz.func144,Tryz.ntmps144
  go_wp2_with fail
  refine HIX.out.mono ?_
  rintro e w1 ⟨rfl,hb⟩
  have HE1:=hid (HE.out w1 (hb.mono HBS.out) hb)
  clear hb
  go_wp2_with fail
  exact HE1.out
 | some i0 =>
  obtain ⟨hi0,hpi,hpre⟩:=List.findIdx?_eq_some_iff_getElem.1 HZ.out.symm
  obtain ⟨g,rfl⟩:∃ g,a = some ⟨g,0,none⟩:=by
   rcases HO.out.2 with ⟨e,h0⟩ | ⟨g,cap,cur,e,-⟩
   ·
    omega
   ·
    injection e with e1 e2 e3
    exact ⟨g,e1⟩
  have hcap:n ≤ c:=by
   rcases HO.out.2 with ⟨e,h0⟩ | ⟨g',cap,cur,e,-,-,h,-⟩
   ·
    cases e
   ·
    injection e with e1 e2 e3
    rw [e3,HN.out];exact h
  have hgb:Hid (base ≤ g):=(own_views HO.out).own g rfl |>.1
  have HI0:Hid (l.take i0 = (l.take (i0 + 1)).filter fun x => !p x):=by
   rw [Hid,List.take_add_one,List.getElem?_eq_getElem hi0,List.filter_append]
   have e1:(l.take i0).filter (fun x => !p x) = l.take i0:=by
    rw [List.filter_eq_self]
    intro x hx
    obtain ⟨j,hj,rfl⟩:=List.mem_take_iff_getElem.1 hx
    have:=hpre j (by omega)
    simpa using this
   rw [e1]
   simp [hpi]
  have hi0n:i0 < n:=by rw [HN.out];exact hi0
  clear hi0 hpi hpre
  simp only at HIX
  go_enter Tryz.func144,Tryz.ntmps144
  go_wp2_with fail
  refine HIX.out.mono ?_
  rintro e w1 ⟨rfl,hb⟩
  have HB1:=hid (hb.mono HBS.out)
  have HO1:=hid (HO.out.below_of hb)
  have e1:((i0:Int) == -1) = false:=by
   rw [Bool.eq_false_iff]
   intro h
   simp at h
  clear hb
  go_wp2_with fail
  clear e1
  go_loopw [5,6] (fun v5 v6 wr => ∃ (i j:Nat) (L:List VW),v5 = .int .i64 (i:Int) ∧ v6 = .int .i64 (j:Int) ∧ i < j ∧ j ≤ n ∧ Hid (OwnV wr base (.slice (some ⟨g,0,none⟩) n c) L ∧ L.length = n ∧ Below base w wr ∧ L.take i = (l.take j).filter (fun x => !p x) ∧ L.drop j = l.drop j)) (fun _ v6 _ => n - (intOf v6).toNat)
  case atStart => exact ⟨i0,i0 + 1,l,rfl,by go_num,by omega,by omega,HO1.out,HN.out.symm,HB1.out,HI0.out,rfl⟩
  case round =>
   obtain ⟨i,j,L,rfl,rfl,hij,hj,HJ⟩:=hrel
   by_cases hlt:j < n
   ·
    obtain ⟨x,hx⟩:∃ x,l[j]? = some x:=⟨_,List.getElem?_eq_getElem (by rw [← HN.out];exact hlt)⟩
    have hLx:L[j]? = some x:=by
     have h1:(L.drop j)[0]? = (l.drop j)[0]?:=by rw [HJ.out.2.2.2.2]
     rw [List.getElem?_drop,List.getElem?_drop,Nat.add_zero] at h1
     rw [h1];exact hx
    obtain ⟨n0,-,hgl⟩:=HJ.out.1.cell j x hLx 0 _ rfl
    have n1:=(HJ.out.1.cell j x hLx 1 _ rfl).1
    have n2:=(HJ.out.1.cell j x hLx 2 _ rfl).1
    have n3:=(HJ.out.1.cell j x hLx 3 _ rfl).1
    have n4:=(HJ.out.1.cell j x hLx 4 _ rfl).1
    have n5:=(HJ.out.1.cell j x hLx 5 _ rfl).1
    have n6:=(HJ.out.1.cell j x hLx 6 _ rfl).1
    rw [Nat.add_zero] at n0
    have hix:=index_run under_views size_vw (a:=some ⟨g,0,none⟩) rfl j hlt (cap:=c)
    rw [Nat.zero_add] at hix
    have HX:=hid (And.intro hx hLx)
    obtain ⟨B,HB⟩:∃ B,Hid (B = wr.heap.size):=⟨_,rfl⟩
    obtain ⟨W,HW⟩:∃ W,Hid (W = wr.alloc (.cells #[.int .i64 x.r.number,.int .i64 x.r.wire,.int .i64 x.r.start,.int .i64 x.r.at',.int .i64 x.r.to,.int .i64 x.k,.bool x.run] 140)):=⟨_,rfl⟩
    have hbw:Below wr.heap.size wr W:=by rw [HW.out];exact (Below.refl _ _).alloc (Nat.le_refl _) _
    have hkw:Blk W B x.cells 140:=by rw [HW.out,HB.out];exact Blk.new wr x.cells _
    have HKW:=hid hkw
    have HBW:=hid hbw
    have hbwr:=HJ.out.2.2.1
    have hbw2:Below base w W:=hbwr.trans (hbw.mono (Nat.le_trans HBS.out hbwr.size))
    have HC:=hid (HCL.out x W (List.mem_of_getElem? hx) hbw2)
    have HB2:=hid hbw2
    obtain ⟨P0,HP0⟩:∃ b,Hid (b = p x):=⟨_,rfl⟩
    rw [← HP0.out] at HC
    unfold viewV at HC
    have k0:=hkw.cell 0 _ rfl
    have k1:=hkw.cell 1 _ rfl
    have k2:=hkw.cell 2 _ rfl
    have k3:=hkw.cell 3 _ rfl
    have k4:=hkw.cell 4 _ rfl
    have k5:=hkw.cell 5 _ rfl
    have k6:=hkw.cell 6 _ rfl
    have kl:=hkw.lt
    have HOW:=hid (HJ.out.1.below_of hbw)
    clear hx hLx hbw hkw hbwr hbw2
    go_upto_region 8 with fail
    rw [← HW.out,← HB.out]
    clear n0 n1 n2 n3 n4 n5 n6 hix hgl
    go_wp2_with fail
    refine HC.out.mono ?_
    rintro e w5 ⟨rfl,hb5⟩
    have HO5:=hid (HOW.out.below_of hb5)
    have HB5:=hid (HB2.out.trans (hb5.mono (Nat.le_trans HBS.out HB2.out.size)))
    have HK5:=hid (HKW.out.below hb5)
    clear hb5 k0 k1 k2 k3 k4 k5 k6 kl
    have HTJ:Hid ((l.take (j + 1)).filter (fun x => !p x) = (l.take j).filter (fun x => !p x) ++ if P0 = true then [] else [x]):=by
     rw [Hid,List.take_add_one,HX.out.1,List.filter_append,HP0.out]
     cases h:p x <;> simp [h]
    cases P0 with
    | true =>
     go_wp2_with fail
     go_roundw
     case rel => exact ⟨i,j + 1,L,rfl,by go_num,by omega,hlt,HO5.out,HJ.out.2.1,HB5.out,by rw [HTJ.out];simpa using HJ.out.2.2.2.1,by
      have h:=congrArg (List.drop 1) HJ.out.2.2.2.2
      rwa [List.drop_drop,List.drop_drop] at h⟩
     case measure => simp [intOf];omega
    | false =>
     obtain ⟨y,hy⟩:∃ y,L[i]? = some y:=⟨_,List.getElem?_eq_getElem (by rw [HJ.out.2.1];omega)⟩
     obtain ⟨m0,z0,hgl⟩:=HO5.out.cell i y hy 0 _ rfl
     obtain ⟨m1,z1,-⟩:=HO5.out.cell i y hy 1 _ rfl
     obtain ⟨m2,z2,-⟩:=HO5.out.cell i y hy 2 _ rfl
     obtain ⟨m3,z3,-⟩:=HO5.out.cell i y hy 3 _ rfl
     obtain ⟨m4,z4,-⟩:=HO5.out.cell i y hy 4 _ rfl
     obtain ⟨m5,z5,-⟩:=HO5.out.cell i y hy 5 _ rfl
     obtain ⟨m6,z6,-⟩:=HO5.out.cell i y hy 6 _ rfl
     rw [Nat.add_zero] at m0 z0
     have hix:=index_run under_views size_vw (a:=some ⟨g,0,none⟩) rfl i (show i < n by omega) (cap:=c)
     rw [Nat.zero_add] at hix
     have k0:=HK5.out.cell 0 _ rfl
     have k1:=HK5.out.cell 1 _ rfl
     have k2:=HK5.out.cell 2 _ rfl
     have k3:=HK5.out.cell 3 _ rfl
     have k4:=HK5.out.cell 4 _ rfl
     have k5:=HK5.out.cell 5 _ rfl
     have k6:=HK5.out.cell 6 _ rfl
     have kl:=HK5.out.lt
     have HPUT:=hid (HO5.out.put i (by rw [HJ.out.2.1];omega) x)
     have HBP:=hid (setCells_below hgb.out x.cells (i * 7) w5 w HB5.out)
     clear hy
     go_wp2_with fail
     go_roundw
     case rel => exact ⟨i + 1,j + 1,L.set i x,by go_num,by go_num,by omega,hlt,HPUT.out,by rw [List.length_set];exact HJ.out.2.1,HBP.out,by
      rw [HTJ.out,if_neg (by decide),← HJ.out.2.2.2.1,List.take_add_one,List.take_set_of_le (Nat.le_refl _),List.getElem?_set_self (by rw [HJ.out.2.1];omega)];rfl,by
      have h:=congrArg (List.drop 1) HJ.out.2.2.2.2
      rw [List.drop_drop,List.drop_drop] at h
      rw [List.drop_set_of_lt (by omega)];exact h⟩
     case measure => simp [intOf];omega
   ·
    obtain rfl:j = n:=by omega
    have hic:c ≠ i:=by omega
    have hslc:∀ W,(Instr.slice 135 (.slice (some ⟨g,0,none⟩) j c) (some (.int .i64 (i:Int))) none none).run Tryz.prog W = .ok (.slice (some ⟨g,i * 7,none⟩) (j - i) (c - i)) W:=by
     intro W
     rw [slice_l_run under_views size_vw (some ⟨g,0,none⟩) j c i (by omega)]
     simp [sliced,hic,addr_add]
    have hslh:∀ W,(Instr.slice 135 (.slice (some ⟨g,0,none⟩) j c) none (some (.int .i64 (i:Int))) none).run Tryz.prog W = .ok (.slice (some ⟨g,0,none⟩) i c) W:=by
     intro W
     rw [slice_h_run under_views size_vw (some ⟨g,0,none⟩) j c i (by omega)]
     simp [sliced,addr_add]
    obtain ⟨w6,hr6,hO6,hB6⟩:=HJ.out.1.clear i hij 0
    have HE:Hid (Q (.returned (.slice (some ⟨g,0,none⟩) i c)) w6):=by
     have e:L.take i = l.filter (fun x => !p x):=by rw [HJ.out.2.2.2.1,List.take_of_length_le (by rw [HN.out];exact Nat.le_refl _)]
     rw [e] at hO6
     rw [HQ.out]
     exact ⟨_,rfl,hO6,hB6 w HJ.out.2.2.1⟩
    have HR6:=hid hr6
    clear hr6 hO6 hB6 hic
    go_wp2_with (refine wpList_clear_eq (o:=⟨none,_,_,_,_,_⟩) rfl _ _ rfl _ rfl HR6.out ?_)
    exact HE.out
end Go.Proofs.YtfimpmennkfjcaaGreatDoor
namespace Go.Proofs.YtfimpmennkfjcaaGreatDoor
open Go.RowKit
theorem enter_those (args:Array Value) (w:World):(callFunc 145 args).run Tryz.prog w = .ok (.enter 145 args) w:=(enters_of Tryz.func145 (by kernel_rfl) rfl) args w
theorem enter_of1 (args:Array Value) (w:World):(callFunc 109 args).run Tryz.prog w = .ok (.enter 109 args) w:=(enters_of Tryz.func109 (by kernel_rfl) rfl) args w
theorem OwnV.mono {w:World} {base base':Nat} {v:Value} {l:List VW} (h:OwnV w base v l) (hb:base' ≤ base):OwnV w base' v l:=
 ⟨h.1,h.2.imp id (fun ⟨g,cap,cur,hv,hg,r⟩ => ⟨g,cap,cur,hv,Nat.le_trans hb hg,r⟩)⟩
set_option maxRecDepth 100000 in
set_option maxHeartbeats 4000000 in
theorem those_fn {w:World} {B F:Nat} {cap:Array Value} {q:Bool} (hB:w.cell? ⟨B,0,none⟩ = some (.func (.func F) #[] cap)) (hcf:∀ (args:Array Value) (w:World),(callFunc F args).run Tryz.prog w = .ok (.enter F args) w) (x:VW)
  (hcl:∀ W,Below w.heap.size w W → Calls Tryz.prog F (#[viewV x.r x.k x.run] ++ cap) W fun e w' => e = .returned (.bool q) ∧ Below W.heap.size W w') :
  Calls Tryz.prog 145 #[viewV x.r x.k x.run,.pointer (some ⟨B,0,none⟩)] w fun e w' => e = .returned (.bool (!q)) ∧ Below w.heap.size w w':=by
 obtain ⟨⟨x1,x2,x3,x4,x5⟩,xk,xrun⟩:=x
 have hl:=World.block_lt_of_cell? w _ hB
 obtain ⟨W1,HW1⟩:∃ W1,Hid (W1 = w.alloc (.cells #[.int .i64 x1,.int .i64 x2,.int .i64 x3,.int .i64 x4,.int .i64 x5,.int .i64 xk,.bool xrun] 140)):=⟨_,rfl⟩
 have hb1:Below w.heap.size w W1:=by rw [HW1.out];exact (Below.refl _ _).alloc (Nat.le_refl _) _
 have HB1:=hid hb1
 have HCL:=hid (hcl W1 hb1)
 unfold viewV at HCL
 unfold viewV
 simp only at HCL ⊢
 clear hcl hb1
 go_enter Tryz.func145,Tryz.ntmps145
 go_wp2_with fail
 rw [← HW1.out]
 refine HCL.out.mono ?_
 rintro e w2 ⟨rfl,hb2⟩
 have HB2:=hid (HB1.out.trans (hb2.mono HB1.out.size))
 clear hb2
 go_wp2_with fail
 go_ret
 exact ⟨rfl,HB2.out⟩
set_option maxRecDepth 100000 in
set_option maxHeartbeats 4000000 in
theorem of_fn {w:World} {B:Nat} {n:Int} (hB:w.cell? ⟨B,0,none⟩ = some (.int .i64 n)) (x:VW) :
  Calls Tryz.prog 109 #[viewV x.r x.k x.run,.pointer (some ⟨B,0,none⟩)] w fun e w' => e = .returned (.bool (decide ((x.r.number:Int) = n))) ∧ Below w.heap.size w w':=by
 obtain ⟨⟨x1,x2,x3,x4,x5⟩,xk,xrun⟩:=x
 have hl:=World.block_lt_of_cell? w _ hB
 unfold viewV
 simp only
 have hb1:Below w.heap.size w (w.alloc (.cells #[.int .i64 x1,.int .i64 x2,.int .i64 x3,.int .i64 x4,.int .i64 x5,.int .i64 xk,.bool xrun] 140)):=(Below.refl _ _).alloc (Nat.le_refl _) _
 have HB1:=hid hb1
 clear hb1
 go_enter Tryz.func109,Tryz.ntmps109
 go_wp2_with fail
 go_ret
 exact ⟨rfl,HB1.out⟩
set_option maxRecDepth 100000 in
set_option maxHeartbeats 4000000 in
theorem view_those {w:World} {v vf:Value} {l:List UInt8} {fs:List Fld} (h:Bytes w v l) (hl:l.length ≤ 1099511627776) (hf:FieldsAt w vf fs) (nm:ByteArray) (F:Nat) (cap:Array Value) (p:VW → Bool) (hcf:∀ (args:Array Value) (w:World),(callFunc F args).run Tryz.prog w = .ok (.enter F args) w)
  (hcl:∀ (x:VW) (wr:World),Below w.heap.size w wr → Calls Tryz.prog F (#[viewV x.r x.k x.run] ++ cap) wr fun e w' => e = .returned (.bool (p x)) ∧ Below wr.heap.size wr w') :
  Calls Tryz.prog 108 #[.agg #[.string nm,vf],v,.func (.func F) #[] cap] w fun e w' => ∃ v' base,e = .returned v' ∧ w.heap.size ≤ base ∧ OwnV w' base v' ((vall fs l).1.filter p) ∧ Below w.heap.size w w':=by
 obtain ⟨-,a,c,rfl,-⟩:=h.open
 obtain ⟨-,fa,fc,rfl,-⟩:=hf.open
 obtain ⟨n,HN⟩:∃ n,Hid (n = l.length):=⟨_,rfl⟩
 obtain ⟨fn,HFN⟩:∃ n,Hid (n = fs.length):=⟨_,rfl⟩
 rw [← HN.out] at h ⊢
 rw [← HFN.out] at hf ⊢
 obtain ⟨X,HX⟩:∃ X,Hid (X = w.heap.size):=⟨_,rfl⟩
 obtain ⟨W1,HW1⟩:∃ W1,Hid (W1 = (w.alloc (.cells #[.string nm,.slice fa fn fc] 67)).alloc (.cells #[.func (.func F) #[] cap] 142)):=⟨_,rfl⟩
 have hb1:Below w.heap.size w W1:=by rw [HW1.out];(repeat (first | with_reducible exact Below.refl _ _ | with_reducible refine Below.setCell ?_ (by first | omega | (simp;omega) | (simp;done)) _ | with_reducible refine Below.alloc ?_ (by first | omega | (simp;omega) | (simp;done)) _ | with_reducible refine below_drewN ?_ _ | with_reducible refine Below.drew ?_))
 have hk1:Blk W1 X [.string nm,.slice fa fn fc] 67:=by rw [HW1.out,HX.out];exact (Blk.new w [.string nm,.slice fa fn fc] _).alloc _
 have hk2:Blk W1 (X + 1) [.func (.func F) #[] cap] 142:=by rw [HW1.out,HX.out];exact Blk.new' _ [.func (.func F) #[] cap] _ _ (by simp)
 have HA:=hid (view_All (h.below hb1) hl (hf.below hb1) nm)
 have HB1:=hid hb1
 have HK2:=hid hk2
 have HCL:=hid hcl
 obtain ⟨Q,HQ⟩:∃ Q:Ending → World → Prop,Hid (Q = fun e w' => ∃ v' base,e = .returned v' ∧ w.heap.size ≤ base ∧ OwnV w' base v' ((vall fs l).1.filter p) ∧ Below w.heap.size w w'):=⟨_,rfl⟩
 rw [← HQ.out]
 have HQ':=HQ
 have HLL:Hid ((vall fs l).1.length ≤ 1099511627776):=by have:=vall_len fs l;show _ ≤ _;omega
 have k0:=hk1.cell 0 _ rfl
 have k1:=hk1.cell 1 _ rfl
 have kl:=hk1.lt
 clear h hf hb1 hk1 hk2 hcl HQ
 go_enter Tryz.func108,Tryz.ntmps108
 go_upto_region 1 with fail
 rw [← HW1.out,← HX.out]
 go_wp2_with fail
 refine HA.out.mono ?_
 rintro e w2 ⟨v2,base,rfl,hbase,hrows,hb2⟩
 obtain ⟨va,vc,rfl⟩:=hrows.form
 have HO2:=hid (views_own hrows)
 have HB2:=hid (HB1.out.trans (hb2.mono HB1.out.size))
 have k2:=(HK2.out.below hb2).cell 0 _ rfl
 have k2l:=(HK2.out.below hb2).lt
 have hX1:X + 1 < W1.heap.size:=HK2.out.lt
 have hB2:Below W1.heap.size W1 w2:=hb2
 have HD:=hid (deleteFunc_views (base:=W1.heap.size) (HO2.out.mono hbase) HLL.out hb2.size 145 #[.pointer (some ⟨X + 1,0,none⟩)] (fun x => !p x) enter_those (fun x wr _ hb => those_fn ((show Blk wr (X + 1) _ _ from (hb.block (X + 1) hX1).trans (HK2.out.below hB2)).cell 0 _ rfl) hcf x fun W hW => HCL.out x W (HB2.out.trans ((hb.mono HB1.out.size).trans (hW.mono (Nat.le_trans HB2.out.size hb.size))))))
 unfold DelPost at HD
 obtain ⟨n2,HN2⟩:∃ n,Hid (n = (vall fs l).1.length):=⟨_,rfl⟩
 rw [← HN2.out] at HD ⊢
 have HB1W:=hid hbase
 clear hrows hb2 hX1 hB2 hbase
 go_wp2_with fail
 refine HD.out.mono ?_
 rintro e w3 ⟨v3,rfl,hO3,hb3⟩
 have HE:Hid (Q (.returned v3) w3):=by
  rw [HQ'.out]
  refine ⟨v3,W1.heap.size,rfl,HB1.out.size,?_,HB2.out.trans (hb3.mono HB1.out.size)⟩
  simpa using hO3
 clear hO3 hb3
 go_wp2_with fail
 exact HE.out
set_option maxRecDepth 100000 in
set_option maxHeartbeats 4000000 in
theorem view_Of {w:World} {v vf:Value} {l:List UInt8} {fs:List Fld} (h:Bytes w v l) (hl:l.length ≤ 1099511627776) (hf:FieldsAt w vf fs) (nm:ByteArray) (n:Int) :
  Calls Tryz.prog 79 #[.agg #[.string nm,vf],v,.int .i64 n] w fun e w' => ∃ v' base,e = .returned v' ∧ w.heap.size ≤ base ∧ OwnV w' base v' ((vall fs l).1.filter fun x => decide ((x.r.number:Int) = n)) ∧ Below w.heap.size w w':=by
 obtain ⟨-,a,c,rfl,-⟩:=h.open
 obtain ⟨-,fa,fc,rfl,-⟩:=hf.open
 obtain ⟨ln,HN⟩:∃ n,Hid (n = l.length):=⟨_,rfl⟩
 obtain ⟨fn,HFN⟩:∃ n,Hid (n = fs.length):=⟨_,rfl⟩
 rw [← HN.out] at h ⊢
 rw [← HFN.out] at hf ⊢
 obtain ⟨X,HX⟩:∃ X,Hid (X = w.heap.size):=⟨_,rfl⟩
 obtain ⟨W1,HW1⟩:∃ W1,Hid (W1 = (w.alloc (.cells #[.string nm,.slice fa fn fc] 67)).alloc (.cells #[.int .i64 n] 3)):=⟨_,rfl⟩
 have hb1:Below w.heap.size w W1:=by rw [HW1.out];(repeat (first | with_reducible exact Below.refl _ _ | with_reducible refine Below.setCell ?_ (by first | omega | (simp;omega) | (simp;done)) _ | with_reducible refine Below.alloc ?_ (by first | omega | (simp;omega) | (simp;done)) _ | with_reducible refine below_drewN ?_ _ | with_reducible refine Below.drew ?_))
 have hk1:Blk W1 X [.string nm,.slice fa fn fc] 67:=by rw [HW1.out,HX.out];exact (Blk.new w [.string nm,.slice fa fn fc] _).alloc _
 have hk2:Blk W1 (X + 1) [.int .i64 n] 3:=by rw [HW1.out,HX.out];exact Blk.new' _ [.int .i64 n] _ _ (by simp)
 have HT:=hid (view_those (h.below hb1) hl (hf.below hb1) nm 109 #[.pointer (some ⟨X + 1,0,none⟩)] (fun x => decide ((x.r.number:Int) = n)) enter_of1 (fun x wr hb => of_fn ((hk2.below hb).cell 0 _ rfl) x))
 have HB1:=hid hb1
 obtain ⟨Q,HQ⟩:∃ Q:Ending → World → Prop,Hid (Q = fun e w' => ∃ v' base,e = .returned v' ∧ w.heap.size ≤ base ∧ OwnV w' base v' ((vall fs l).1.filter fun x => decide ((x.r.number:Int) = n)) ∧ Below w.heap.size w w'):=⟨_,rfl⟩
 rw [← HQ.out]
 have HQ':=HQ
 have k0:=hk1.cell 0 _ rfl
 have k1:=hk1.cell 1 _ rfl
 have kl:=hk1.lt
 clear h hf hb1 hk1 hk2 HQ
 go_enter Tryz.func79,Tryz.ntmps79
 go_upto_region 1 with fail
 rw [← HW1.out,← HX.out]
 go_wp2_with fail
 refine HT.out.mono ?_
 rintro e w2 ⟨v2,base,rfl,hbase,hO2,hb2⟩
 have HE:Hid (Q (.returned v2) w2):=by
  rw [HQ'.out]
  exact ⟨v2,base,rfl,Nat.le_trans HB1.out.size hbase,hO2,HB1.out.trans (hb2.mono HB1.out.size)⟩
 clear hO2 hb2
 go_wp2_with fail
 exact HE.out
end Go.Proofs.YtfimpmennkfjcaaGreatDoor
