/- algebra.part: what a mask keeps, or leaves, of a right meaning (partM), for each depth. Meanings of at most 2^40 things. -/
import Derived.Test.YtdpnmdkbdibkpaaGreatDoorZ13
import Derived.Test.YtdpnmdkbdibkpaaGreatDoorZ14
import Derived.Test.YtdpnmdkbdibkpaaGreatDoorZ17
import Derived.Test.YtdpnmdkbdibkpaaGreatDoorZ18
import Derived.Test.YtdpnmdkbdibkpaaGreatDoorZ20
import Derived.Test.YtdpnmdkbdibkpaaGreatDoorZ25
import Derived.Test.YtdpnmdkbdibkpaaGreatDoorZ27
import Derived.StillTailTactics
import Derived.Deep.RegionHeld3
import Derived.Deep.CutBlock
namespace Go.Proofs.YtdpnmdkbdibkpaaGreatDoor
set_option maxRecDepth 100000
set_option maxHeartbeats 16000000
section
open Go.RowKit Go.Shelf
def zk2 (w0:World)(sv:Value)(s:List Mes)(keep:Bool)(d:Nat):Prop:=∀ (m:Nat) (w:World) (v mv:Value) (x:M d) (ws:List (List Int)),m<s.length→Below w0.heap.size w0 w→zac d w0 v x→zaM w mv ws→zdc ws→zae s d (m:Int) x=true→mwt d x≤1099511627776 →
 Calls Tryz.prog 74 #[sv,.int .i64 (m:Int),v,zb1 mv,.bool keep] w fun e w'=>∃ v',e= .returned v'∧Below w.heap.size w w'∧zap w0.heap.size w.heap.size w' fun w2=>zac d w2 v' (zdw s keep d m (mOf ws) x)
theorem zi1 {w0:World}{sv:Value}{s:List Mes}(hS0:zaj w0 sv s)(keep:Bool)(d:Nat)(hrec:zk2 w0 sv s keep d):zk2 w0 sv s keep (d+1):=by
 intro m w v mv x ws hm hw hx hM hL hr hwt
 have HWT:=hid hwt
 have HRE:=hid hrec
 have HMS:=hid hm
 have HS00:=hid hS0
 obtain⟨fs,HFS⟩:∃ fs,Hid (fs=(s.getD m .zero).fields):=⟨_,rfl⟩
 obtain⟨-,sa,sc,rfl,-⟩:=hS0.open
 obtain⟨vv,uv,rfl,hV,hU⟩:=hx
 obtain⟨-,va,vc,rfl,-,hva⟩:=hV.open
 obtain⟨-,ua,uc,huv,-,-⟩:=hU.open
 obtain⟨-,ma,mc,rfl,-,-⟩:=hM.open
 have hok:zlI (zbp (zae s d)) fs (M.vals x):=by
  unfold zae at hr
  by_cases h0:(m:Int)<0∨(s.length:Int)≤(m:Int)
  ·
   rw[if_pos h0] at hr;cases hr
  ·
   rw[if_neg h0,Bool.and_eq_true,Int.toNat_natCast,←HFS.out] at hr
   exact (zdv hr.1).1
 have HOK:=hid hok
 obtain⟨un,HUN⟩:∃ n,Hid (n=(M.unk x).length):=⟨_,rfl⟩
 obtain⟨vn,HVN⟩:∃ n,Hid (n=(M.vals x).length):=⟨_,rfl⟩
 obtain⟨mn,HMN⟩:∃ n,Hid (n=ws.length):=⟨_,rfl⟩
 obtain⟨sn,HSN⟩:∃ n,Hid (n=s.length):=⟨_,rfl⟩
 rw[←HUN.out] at huv
 subst huv
 rw[←HSN.out] at HRE HS00 ⊢
 rw[←HVN.out] at hV ⊢
 rw[←HMN.out] at hM ⊢
 have hvn:vn≤1099511627776:=by rw[HVN.out];exact (zgZ x hwt).2
 obtain⟨kp,HKP⟩:∃ kp,Hid (kp=keep):=⟨_,rfl⟩
 obtain⟨P,HP⟩:∃ P:Val (M d)→List (Val (M d)),Hid (P=pval (fun o u y=>zdw s kp d o.toNat u y) fs kp (mOf ws)):=⟨_,rfl⟩
 obtain⟨Q,HQ⟩:∃ Q:Ending→World→Prop,Hid (Q=fun e w'=>∃ v',e= .returned v'∧Below w.heap.size w w'∧zap w0.heap.size w.heap.size w' fun w2=>zac (d+1) w2 v' (zdw s keep (d+1) m (mOf ws) x)):=⟨_,rfl⟩
 rw[←HQ.out]
 have HQ':=HQ
 obtain⟨X,HX⟩:∃ X,Hid (X=w.heap.size):=⟨_,rfl⟩
 have HHW:=hid hw
 have HML:=hid (And.intro hM hL)
 have HVA:=hid hva
 have HUU:=hid hU
 clear hS0 hw hM hL hva hU hV hr hok hrec hwt HQ hm
 obtain⟨uw,HUW⟩:∃ uw,Hid (uw=if keep=true then Value.slice none 0 0 else .slice ua un uc):=⟨_,rfl⟩
 obtain⟨A4,HA4⟩:∃ W,Hid (W=(((w.alloc (.cells #[.slice va vn vc,.slice ua un uc] 27)).alloc (.cells #[.slice ma mn mc] 69)).alloc (.cells #[.slice none 0 0,.slice none 0 0] 27)).alloc (.cells #[.slice none 0 0,.slice none 0 0] 27)):=⟨_,rfl⟩
 have hz4:A4.heap.size=X+1+1+1+1:=by rw[HA4.out,HX.out];simp
 have hx4:Blk A4 X [.slice va vn vc,.slice ua un uc] 27:=by rw[HA4.out,HX.out];exact (((Blk.new w [.slice va vn vc,.slice ua un uc] _).alloc _).alloc _).alloc _
 have hm4:Blk A4 (X+1) [.slice ma mn mc] 69:=by rw[HA4.out,HX.out];exact ((Blk.new' _ [.slice ma mn mc] _ _ (by simp)).alloc _).alloc _
 have hr4:Blk A4 (X+1+1) [.slice none 0 0,.slice none 0 0] 27:=by rw[HA4.out,HX.out];exact (Blk.new' _ [.slice none 0 0,.slice none 0 0] _ _ (by simp)).alloc _
 have ho4:Blk A4 (X+1+1+1) [.slice none 0 0,.slice none 0 0] 27:=by rw[HA4.out,HX.out];exact Blk.new' _ [.slice none 0 0,.slice none 0 0] _ _ (by simp)
 have hb4:Below X w A4:=by rw[HA4.out,HX.out];(with_reducible repeat first|exact Below.refl _ _|refine pzA ?_ _|refine pzB ?_ _|refine zab ?_ _|refine Below.drew ?_)
 obtain⟨W1,HW1⟩:∃ W1,Hid (W1=if keep=true then A4 else A4.setCell ⟨X+1+1+1,1,none⟩ uw):=⟨_,rfl⟩
 have hbut:But (X+1+1+1) A4 W1:=by
  rw[HW1.out];split
  ·
   exact But.refl _ _
  ·
   exact But.set ho4 1 _
 have ho1:Blk W1 (X+1+1+1) [.slice none 0 0,uw] 27:=by
  rw[HW1.out,HUW.out]
  cases keep
  ·
   exact ho4.set 1 _
  ·
   exact ho4
 have HX1:=hid (hbut.blk hx4 (by omega))
 have HM1:=hid (hbut.blk hm4 (by omega))
 have HR1:=hid (hbut.blk hr4 (by omega))
 have HB1:Hid (Below X w W1):=hb4.trans (hbut.to_below (by omega) (by omega))
 have HO1:Hid (zd2 (zeE d) 32 4 w0.heap.size 27 (X+1+1+1) [] [uw] W1 W1 (.slice none 0 0) []):=zd2.start ho1
 have HZ1:Hid (W1.heap.size=X+1+1+1+1):=by
  rw[Hid,HW1.out];split
  ·
   exact hz4
  ·
   simpa using hz4
 have HN0:Hid (w0.heap.size≤X):=by rw[HX.out];exact HHW.out.size
 have HBW:Hid (∀ wr,Below (X+1+1+1) W1 wr→Below X w wr):=fun wr h=>HB1.out.trans (h.mono (by omega))
 have c0:=hx4.cell 0 _ rfl
 have c1:=hx4.cell 1 _ rfl
 have cl:=hx4.lt
 have c2:=ho4.cell 0 _ rfl
 have c3:=ho4.cell 1 _ rfl
 have cf:=ho4.free 1
 have cl2:=ho4.lt
 clear hx4 hm4 hr4 ho4 hb4 hbut ho1 hz4
 have HZL:Hid (∀ k:Nat,k≤vn→((M.vals x).take k).length=k):=fun k hk=>by rw[List.length_take,←HVN.out];omega
 have HFIN:Hid (∀ (W:World) (v':Value) (o:List (Val (M d))),o=(M.vals x).flatMap P→o.length≤1099511627776→zd2 (zeE d) 32 4 w0.heap.size 27 (X+1+1+1) [] [uw] W1 W v' o→Q (.returned (.agg #[v',uw])) ((W.setCell ⟨X+1+1,0,none⟩ v').setCell ⟨X+1+1,1,none⟩ uw)):=by
  intro W v' o ho hol hO
  have hB:Below X w ((W.setCell ⟨X+1+1,0,none⟩ v').setCell ⟨X+1+1,1,none⟩ uw):=((HBW.out W hO.below).setCell (by show X≤X+1+1;omega) _).setCell (by show X≤X+1+1;omega) _
  rw[HQ'.out]
  refine⟨_,rfl,by rw[←HX.out];exact hB,fun w2 hw2=>?_⟩
  rw[←HX.out] at hw2
  have hag:∀ b,b<W.heap.size→(b<w0.heap.size∨X+1+1+1+1≤b)→w2.heap[b]?=W.heap[b]?:=by
   intro b hlt hc
   have hne:b≠X+1+1:=by have:=HN0.out;omega
   refine (hw2 b (by simpa using hlt) (hc.imp id fun h=>by omega)).trans ?_
   rw[Below.heap_setCell _ _ _ b hne,Below.heap_setCell _ _ _ b hne]
  refine⟨v',uw,rfl,?_,?_⟩
  ·
   have h:=hO.at (by omega) hag
   rw[ho,HP.out] at h
   rw[HKP.out,HFS.out] at h
   exact h
  ·
   rw[HUW.out]
   show zaV w2 _ (if keep=true then [] else M.unk x)
   cases keep with
   | true=>exact zhd w2
   | false=>exact HUU.out.keep (zdq rfl (HHW.out.trans ((HBW.out W hO.below).mono HN0.out)) hag)
 cases keep
 all_goals
  have huw:=HUW.out
  have hw1:=HW1.out
  simp only[if_true,reduceCtorEq,if_false] at huw hw1
  obtain⟨za,zn,zc,HZW⟩:∃ a n c,Hid (uw= .slice a n c):=⟨_,_,_,huw⟩
  try rw[huw] at hw1
  clear huw HUW
  unfold zb1
  go_enter Tryz.func74,Tryz.ntmps74
  go_upto_region 2 with fail
  rw[←HA4.out,←HX.out]
  have HW1':=hid hw1
  clear hw1
  have x0:=HX1.out.cell 0 _ rfl
  have xl:=HX1.out.lt
  go_wp2_with fail
  try rw[←HW1'.out]
  have HW1q:=HW1'
  clear HW1 HW1' c0 c1 c2 c3 cl cf cl2
  go_loopw [25] (fun v25 wr=>∃ (i:Nat) (o:List (Val (M d))) (oa:Option Addr) (oc:Nat) (on:Nat),v25= .int .i64 (i:Int)∧i≤vn∧on≤i∧Hid (zd2 (zeE d) 32 4 w0.heap.size 27 (X+1+1+1) [] [uw] W1 wr (.slice oa on oc) o∧o.length=on∧o++((M.vals x).drop i).flatMap P=(M.vals x).flatMap P)) (fun v25 _=>vn - (intOf v25).toNat)
  case atStart=>exact⟨0,[],none,0,0,rfl,by omega,by omega,HO1.out,rfl,rfl⟩
  case round =>
   obtain⟨i,o,oa,oc,on,rfl,hi,hon,HJ⟩:=hrel
   have HK1:Hid (Blk wr X [.slice va vn vc,.slice ua un uc] 27∧Blk wr (X+1) [.slice ma mn mc] 69):=⟨(HJ.out.1.below.block X (by omega)).trans HX1.out,(HJ.out.1.below.block (X+1) (by omega)).trans HM1.out⟩
   have xl:=HK1.out.1.lt
   have x0:=HK1.out.1.cell 0 _ rfl
   by_cases hlt:i<vn
   ·
    obtain⟨v,hv⟩:∃ v,(M.vals x)[i]?=some v:=⟨_,List.getElem?_eq_getElem (by rw[←HVN.out];exact hlt)⟩
    have HBW0:=hid (HBW.out wr HJ.out.1.below)
    have HB0:=hid (HHW.out.trans ((HBW0.out.mono (Nat.le_of_eq HX.out.symm)).mono HHW.out.size))
    obtain⟨b,o',v1,v2,v3,ha,g0,g1,g2,g3,hM⟩:=HVA.out i v hv
    obtain⟨num,a1,n1,q1,a2,n2,q2,a3,n3,q3,hform⟩:=hM.form
    obtain⟨rfl,rfl,rfl⟩:v1= .slice a1 n1 q1∧v2= .slice a2 n2 q2∧v3= .slice a3 n3 q3:=by cases hform;exact⟨rfl,rfl,rfl⟩
    have hnum:v.num=num:=by cases hform;rfl
    rw[hnum] at g0 hM
    clear hform
    have hkr:=zaa HB0.out
    replace g0:=hkr _ _ g0
    replace g1:=hkr _ _ g1
    replace g2:=hkr _ _ g2
    replace g3:=hkr _ _ g3
    have HV:=hid hv
    have HMV:=hid hM
    obtain⟨hq0,hq1,hqn,hqF⟩:=HOK.out.at' v (List.mem_of_getElem? hv)
    unfold qOf at hq0 hq1 hqn hqF
    rw[hnum] at hq0 hq1 hqn hqF
    obtain⟨q,hq⟩:∃ q:Nat,zak fs num=q:=⟨(zak fs num).toNat,by omega⟩
    rw[hq,Int.toNat_natCast] at hqn hqF
    rw[hq] at hq1
    obtain⟨f,HF⟩:∃ f,Hid (f=fs.getD q .zero):=⟨_,rfl⟩
    rw[←HF.out] at hqn hqF
    have HQF:=hid (And.intro hqn hqF)
    have HNUM:=hid (And.intro hnum hq)
    have HFLD:Hid (∀ W,Below w0.heap.size w0 W→Calls Tryz.prog 51 #[.slice sa sn sc,.int .i64 (m:Int),.int .i64 num] W fun e w'=>e= .returned f.val∧Below W.heap.size W w'):=fun W hW=>by
     have h:=zhh (HS00.out.below hW) HMS.out num (j:=q) (by rw[←HFS.out];exact hq) (by rw[←HFS.out];omega)
     rwa [←HFS.out,←HF.out] at h
    have hix:=zad Tryz.underlying24 zdd ha i hlt (cap:=vc)
    have hbl:=World.block_lt_of_cell? wr _ g0
    obtain⟨B,HBB⟩:∃ B,Hid (B=wr.heap.size):=⟨_,rfl⟩
    obtain⟨W6,HW6⟩:∃ W6,Hid (W6=wr.alloc (.cells #[.int .i64 num,.slice a1 n1 q1,.slice a2 n2 q2,.slice a3 n3 q3] 32)):=⟨_,rfl⟩
    have hb6:Below wr.heap.size wr W6:=by rw[HW6.out];exact (Below.refl _ _).alloc (Nat.le_refl _) _
    have hv6:Blk W6 B [.int .i64 num,.slice a1 n1 q1,.slice a2 n2 q2,.slice a3 n3 q3] 32:=by rw[HW6.out,HBB.out];exact Blk.new wr [.int .i64 num,.slice a1 n1 q1,.slice a2 n2 q2,.slice a3 n3 q3] _
    have HB6:=hid hb6
    have HV6:=hid hv6
    have HB06:=hid (HB0.out.trans (hb6.mono HB0.out.size))
    have HWW6:=hid ((HBW0.out.mono (Nat.le_of_eq HX.out.symm)).trans (hb6.mono (HX.out ▸ HBW0.out.size)))
    clear hv hM hkr hnum hq0 hq1 hqn hqF hb6 hv6 ha hq
    go_upto_region 7 with fail
    rw[←HW6.out,←HBB.out]
    clear g0 g1 g2 g3 hix hbl x0 xl
    have d0:=HV6.out.cell 0 _ rfl
    have dl:=HV6.out.lt
    have hm6:=HK1.out.2.below HB6.out
    have m0:=hm6.cell 0 _ rfl
    have ml:=hm6.lt
    have HU:=hid (zmC (HML.out.1.below HWW6.out) HML.out.2 num)
    obtain⟨U,HUU2⟩:∃ U,Hid (U=zbd (mOf ws) num):=⟨_,rfl⟩
    unfold zb1 at HU
    rw[←HUU2.out] at HU
    obtain⟨kn,HKN⟩:∃ n,Hid (n=U.length):=⟨_,rfl⟩
    clear hm6
    go_wp2_with fail
    refine HU.out.mono ?_
    rintro e w8 ⟨v8,rfl,hN8,hb8⟩
    obtain⟨-,ka,kc,rfl,-,-⟩:=hN8.here.open
    rw[←HKN.out] at hN8 ⊢
    unfold zb1
    obtain⟨MB,HMB⟩:∃ b,Hid (b=w8.heap.size):=⟨_,rfl⟩
    obtain⟨W9,HW9⟩:∃ W,Hid (W=w8.alloc (.cells #[.slice ka kn kc] 69)):=⟨_,rfl⟩
    have hb9:Below w8.heap.size w8 W9:=by rw[HW9.out];exact (Below.refl _ _).alloc (Nat.le_refl _) _
    have hm9:Blk W9 MB [.slice ka kn kc] 69:=by rw[HW9.out,HMB.out];exact Blk.new w8 [.slice ka kn kc] _
    have hb69:Below W6.heap.size W6 W9:=hb8.trans (hb9.mono hb8.size)
    have HM9:=hid hm9
    have HU9:=hid (hN8.here.below hb9)
    have HB69:=hid hb69
    have HGM:Hid (W6.heap.size≤MB):=by rw[HMB.out];exact hb8.size
    have hv9:=HV6.out.below hb69
    have d0':=hv9.cell 0 _ rfl
    have dl':=hv9.lt
    have HB09:=hid (HB06.out.trans (hb69.mono HB06.out.size))
    clear hN8 hb8 hm9 hb9 hb69 m0 ml d0 dl HU hv9
    go_upto_region 8 with fail
    rw[←HW9.out,←HMB.out]
    go_wp2_with fail
    refine (HFLD.out _ HB09.out).mono ?_
    rintro e w10 ⟨rfl,hb10⟩
    obtain⟨FB,HFB⟩:∃ b,Hid (b=w10.heap.size):=⟨_,rfl⟩
    obtain⟨wc,HWC⟩:∃ W,Hid (W=w10.alloc (.cells f.cells.toArray 51)):=⟨_,rfl⟩
    have hb11:Below w10.heap.size w10 wc:=by rw[HWC.out];exact (Below.refl _ _).alloc (Nat.le_refl _) _
    have hf11:Blk wc FB f.cells 51:=by rw[HWC.out,HFB.out];exact Blk.new w10 f.cells _
    have hb911:Below W9.heap.size W9 wc:=hb10.trans (hb11.mono hb10.size)
    have hb611:Below W6.heap.size W6 wc:=HB69.out.trans (hb911.mono HB69.out.size)
    have hBr:=HB6.out.trans (hb611.mono HB6.out.size)
    have HWc:=hid ((HBW0.out.mono (Nat.le_of_eq HX.out.symm)).trans (hBr.mono (HX.out ▸ HBW0.out.size)))
    have HGE:Hid (wr.heap.size≤B∧wr.heap.size≤FB∧wr.heap.size≤MB):=⟨by rw[HBB.out];exact Nat.le_refl _,by rw[HFB.out];exact Nat.le_trans HB6.out.size (Nat.le_trans HB69.out.size hb10.size),Nat.le_trans HB6.out.size HGM.out⟩
    have HUC:=hid (HU9.out.below hb911)
    -- what is known at each world behind
    have HCN:Hid (∀ W,Below wc.heap.size wc W→Blk W B [.int .i64 num,.slice a1 n1 q1,.slice a2 n2 q2,.slice a3 n3 q3] 32∧Blk W FB f.cells 51∧zaM W (.slice ma mn mc) ws∧Below wr.heap.size wr W∧W.cell? ⟨X+1+1+1,0,none⟩=some (.slice oa on oc)∧X+1+1+1<W.heap.size∧Blk W MB [.slice ka kn kc] 69∧Blk W (X+1) [.slice ma mn mc] 69∧zaM W (.slice ka kn kc) U):=by
     intro W hW
     have h:=hBr.trans (hW.mono hBr.size)
     exact⟨(HV6.out.below hb611).below hW,hf11.below hW,HML.out.1.below (HWc.out.trans (hW.mono HWc.out.size)),h,(h.cell (p:=⟨X+1+1+1,0,none⟩) HJ.out.1.lt).trans (HJ.out.1.cell 0 _ rfl),Nat.lt_of_lt_of_le HJ.out.1.lt h.size,(HM9.out.below hb911).below hW,HK1.out.2.below h,HUC.out.below hW⟩
    have HADD:Hid (∀ W,Below wc.heap.size wc W→∃ a' c' w5,(Builtin.append_ #[24,24] 24 #[.slice oa on oc,.slice (some ⟨W.heap.size,0,none⟩) 1 1]).run Tryz.prog (W.alloc (.cells #[.int .i64 num,.slice a1 n1 q1,.slice a2 n2 q2,.slice a3 n3 q3] 32))= .ok (.slice a' (on+1) c') w5 ∧
      (w5.cell? ⟨X+1+1+1,0,none⟩=some (.slice oa on oc)∧w5.frozen? ⟨X+1+1+1,0,none⟩=false∧X+1+1+1<w5.heap.size) ∧
      zd2 (zeE d) 32 4 w0.heap.size 27 (X+1+1+1) [] [uw] W1 (w5.setCell ⟨X+1+1+1,0,none⟩ (.slice a' (on+1) c')) (.slice a' (on+1) c') (o++[v])):=by
     intro W hW
     have h:=(HCN.out W hW).2.2.2.1
     obtain⟨a',c',w5,h1,-,-,⟨h4,h6,h7,-⟩,h5⟩:=HJ.out.1.step h (by decide) (by have:=HN0.out;omega) HJ.out.2.1 24 _ 80 Tryz.underlying24 zfg rfl #[.int .i64 num,.slice a1 n1 q1,.slice a2 n2 q2,.slice a3 n3 q3] rfl (by intro u hu;simp at hu;rcases hu with rfl|rfl|rfl|rfl <;> rfl) v (fun w' hw'=>VMsg.keep HMV.out (zdq rfl (HB0.out.trans (h.mono HB0.out.size)) hw')) (by omega) (by decide) 0 rfl
     exact⟨a',c',w5,h1,⟨h4,h6,h7⟩,h5⟩
    obtain⟨y,HY⟩:∃ y,Hid (y=(mOf ws).any (zd0 num)):=⟨_,rfl⟩
    have HPV:Hid (P v=if y=false∧U≠[]∧f.kind=17∧f.rep=false then [⟨num,[],[],(v.subs.take 1).map (zdw s kp d f.of.toNat U)⟩] else if y=kp then [v] else []):=by
     have h:=HP.out
     show P v=_
     rw[h]
     unfold pval
     rw[HNUM.out.1,HNUM.out.2,Int.toNat_natCast,←HF.out,←HY.out,←HUU2.out]
    have HREL:Hid (∀ (W:World) (o2:List (Val (M d))) (oa2:Option Addr) (oc2 on2:Nat),on2≤i+1→o2=o++P v→zd2 (zeE d) 32 4 w0.heap.size 27 (X+1+1+1) [] [uw] W1 W (.slice oa2 on2 oc2) o2→Hid (zd2 (zeE d) 32 4 w0.heap.size 27 (X+1+1+1) [] [uw] W1 W (.slice oa2 on2 oc2) o2∧o2.length=on2∧o2++((M.vals x).drop (i+1)).flatMap P=(M.vals x).flatMap P)):=by
     intro W o2 oa2 oc2 on2 _ ho hO
     refine⟨hO,?_,by rw[ho,List.append_assoc,←znV HV.out,HJ.out.2.2]⟩
     obtain⟨a,c,h⟩:=hO.form
     injection h with h1 h2 h3
     exact h2.symm
    have HWH:Hid (∀ W,Below wc.heap.size wc W→Calls Tryz.prog 105 #[.agg #[.slice ma mn mc],.int .i64 num] W fun e w'=>e= .returned (.bool y)∧Below W.heap.size W w'):=fun W hW=>by rw[HY.out];exact zmz (HCN.out W hW).2.2.1 HML.out.2 num
    have hVW:=HCN.out wc (Below.refl _ _)
    have d0:=hVW.1.cell 0 _ rfl
    have dl:=hVW.1.lt
    have m0:=hVW.2.2.2.2.2.2.2.1.cell 0 _ rfl
    have ml:=hVW.2.2.2.2.2.2.2.1.lt
    have HQF':=hid HQF.out.2
    have HSTAT:=hid (And.intro HHW (And.intro HML (And.intro HRE (And.intro HMV.out (And.intro HN0.out (And.intro HB0.out (And.intro HJ (And.intro HQF (And.intro HWT.out HV.out)))))))))
    obtain⟨fname,fnumber,fkind,frep,fpacked,fof⟩:=f
    clear HVA HOK HWT HUU HX1 HM1 HK1 HR1 HO1 HB1 HBW HZL HFIN HML HRE HQF HP HHW HFS HSN HUN HVN HMN HX HV HMV HNUM HB0 HBW0 HN0 HJ HB6 HV6 HB06 HWc HW6 HBB HZ1 HW1q hVW hBr hb611 hb911 hf11 hb11 hb10 HFLD HMS HS00 HWW6 HM9 HU9 HB69 HGM HB09 d0' dl' HW9 HMB HUC HZW
    simp only[Fld.val,Fld.cells] at HWC HCN ⊢
    go_upto_region 9 with fail
    rw[←HWC.out,←HFB.out]
    go_wp2_with fail
    refine (HWH.out _ (Below.refl _ _)).mono ?_
    rintro e w11 ⟨rfl,hb11⟩
    have HB10:=hid hb11
    have hc:=HCN.out w11 hb11
    clear d0 dl m0 ml
    have d0:=hc.1.cell 0 _ rfl
    have d1:=hc.1.cell 1 _ rfl
    have d2:=hc.1.cell 2 _ rfl
    have d3:=hc.1.cell 3 _ rfl
    have dl:=hc.1.lt
    have e0:=hc.2.1.cell 0 _ rfl
    have e1:=hc.2.1.cell 1 _ rfl
    have e2:=hc.2.1.cell 2 _ rfl
    have e3:=hc.2.1.cell 3 _ rfl
    have e4:=hc.2.1.cell 4 _ rfl
    have e5:=hc.2.1.cell 5 _ rfl
    have el:=hc.2.1.lt
    have x0:=hc.2.2.2.2.1
    have xl:=hc.2.2.2.2.2.1
    have k0:=hc.2.2.2.2.2.2.1.cell 0 _ rfl
    have kl:=hc.2.2.2.2.2.2.1.lt
    clear hb11 hc HWH HWC HFB
    have HSIMP:Hid (¬ (y=false∧0<kn∧fkind=17∧frep=false)→P v=if y=kp then [v] else []):=by
     intro hcs
     rw[HPV.out,if_neg]
     rintro⟨h1,h2,h3,h4⟩
     exact hcs ⟨h1,by rw[HKN.out];exact List.length_pos_iff.2 h2,h3,h4⟩
    have hycase:y=true∨(y=false∧kn=0)∨(y=false∧0<kn):=by
     cases y with
     | true=>exact .inl rfl
     | false=>exact .inr ((Nat.eq_zero_or_pos kn).imp (fun h=>⟨rfl,h⟩) fun h=>⟨rfl,h⟩)
    rcases hycase with rfl|⟨rfl,rfl⟩|⟨rfl,hk0⟩
    rotate_left 2
    ·
     have e6:decide (0<kn)=true:=decide_eq_true hk0
     have HSG:=hid (zms (w:=w11) ⟨fname,fnumber,fkind,frep,fpacked,fof⟩)
     simp only[Fld.val] at HSG
     obtain⟨z,HZZ⟩:∃ z,Hid (z=(decide (fkind=17) && !frep)):=⟨_,rfl⟩
     rw[←HZZ.out] at HSG
     go_wp2_with fail
     refine HSG.out.mono ?_
     rintro e w12 ⟨rfl,hb12⟩
     have HB12:=hid (HB10.out.trans (hb12.mono HB10.out.size))
     have hc:=HCN.out w12 HB12.out
     clear d0 d1 d2 d3 dl e0 e1 e2 e3 e4 e5 el x0 xl k0 kl HSG HB10 hb12
     have d0:=hc.1.cell 0 _ rfl
     have d1:=hc.1.cell 1 _ rfl
     have d2:=hc.1.cell 2 _ rfl
     have d3:=hc.1.cell 3 _ rfl
     have dl:=hc.1.lt
     have e0:=hc.2.1.cell 0 _ rfl
     have e1:=hc.2.1.cell 1 _ rfl
     have e2:=hc.2.1.cell 2 _ rfl
     have e3:=hc.2.1.cell 3 _ rfl
     have e4:=hc.2.1.cell 4 _ rfl
     have e5:=hc.2.1.cell 5 _ rfl
     have el:=hc.2.1.lt
     have x0:=hc.2.2.2.2.1
     have xl:=hc.2.2.2.2.2.1
     have k0:=hc.2.2.2.2.2.2.1.cell 0 _ rfl
     have kl:=hc.2.2.2.2.2.2.1.lt
     have HU12:=hid hc.2.2.2.2.2.2.2.2
     clear hc
     by_cases hcs:fkind=17∧frep=false
     ·
      obtain⟨h17,hrp⟩:=hcs
      have hz:z=true:=by rw[HZZ.out,h17,hrp];rfl
      subst hz
      clear HZZ
      obtain⟨sy,hsy,hry⟩:=zeC HQF'.out h17 hrp
      obtain⟨r,hr,hrs⟩:=zg5 hry
      replace hr:fof=r:=hr
      replace hry:zae s d fof sy=true:=hry
      rw[hr] at hry
      have hUne:U≠[]:=by
       intro h
       have:=HKN.out
       rw[h] at this
       simp at this
       omega
      have HPW:Hid (P v=[⟨num,[],[],[zdw s kp d r U sy]⟩]):=by
       rw[Hid,HPV.out,if_pos (by simp[hUne,h17,hrp]),hsy,hr];rfl
      have hM:=HSTAT.out.2.2.2.1
      obtain⟨wv,tv,sv',hve,hnb,-,-,hSU⟩:=hM
      obtain⟨hn3,-,hSU3⟩:Value.slice a3 n3 q3=sv'∧True∧True:=by cases hve;exact⟨rfl,trivial,trivial⟩
      have hvnum:v.num=num:=by cases hve;rfl
      rw[hvnum] at hnb
      clear hvnum
      subst hn3
      obtain⟨-,ga,gcc,hge,-,hgat⟩:=hSU.open
      obtain⟨gb,go,u1,u2,hga,gg0,gg1,hMs⟩:=hgat 0 sy (by rw[hsy];rfl)
      rw[hsy] at hge
      obtain⟨rfl,rfl,rfl⟩:a3=ga∧n3=1∧q3=gcc:=by injection hge with h1 h2 h3;exact⟨h1,h2,h3⟩
      subst hga
      rw[Nat.zero_mul,Nat.add_zero] at gg0 gg1
      obtain⟨s1,s1n,s1c,s2,s2n,s2c,hse⟩:=hMs.form
      obtain⟨rfl,rfl⟩:u1= .slice s1 s1n s1c∧u2= .slice s2 s2n s2c:=by cases hse;exact⟨rfl,rfl⟩
      have hB0:Below w0.heap.size w0 w12:=HSTAT.out.2.2.2.2.2.1.trans ((HCN.out w12 HB12.out).2.2.2.1.mono HSTAT.out.2.2.2.2.2.1.size)
      have g0:=zaa hB0 _ _ gg0
      have g1:=zaa hB0 _ _ gg1
      have gl:=World.block_lt_of_cell? w12 _ g0
      have hwts:mwt d sy≤1099511627776:=by
       have h1:=zau (vwt (mwt d)) (M.vals x) v (List.mem_of_getElem? HSTAT.out.2.2.2.2.2.2.2.2.2)
       have h2:1+twt (M.unk x)+((M.vals x).map (vwt (mwt d))).sum≤1099511627776:=HSTAT.out.2.2.2.2.2.2.2.2.1
       have h3:mwt d sy≤vwt (mwt d) v:=by unfold vwt;rw[hsy,List.map_cons,List.map_nil,List.sum_cons,List.sum_nil];omega
       omega
      have HREC:Hid (∀ W,Below w12.heap.size w12 W→Calls Tryz.prog 74 #[.slice sa sn sc,.int .i64 (r:Int),.agg #[.slice s1 s1n s1c,.slice s2 s2n s2c],.agg #[.slice ka kn kc],.bool kp] W fun e w'=>∃ v',e= .returned v'∧Below W.heap.size W w'∧zap w0.heap.size W.heap.size w' fun w2=>zac d w2 v' (zdw s kp d r U sy)):=by
       intro W hW
       rw[HKP.out]
       have h:=HSTAT.out.2.2.1.out r W _ _ sy U hrs (hB0.trans (hW.mono hB0.size)) hMs (HU12.out.below hW) (by rw[HUU2.out];exact zfW (zkc HSTAT.out.2.1.out.2) num) hry hwts
       rw[show mOf U=U by rw[HUU2.out];exact zh4 ws num] at h
       exact h
      have HADD2:Hid (∀ (w13:World) (p1 p2:Option Addr) (p1n p1c p2n p2c:Nat),Below w12.heap.size w12 w13→(zap w0.heap.size w12.heap.size w13 fun w2=>zac d w2 (.agg #[.slice p1 p1n p1c,.slice p2 p2n p2c]) (zdw s kp d r U sy))→∃ a' c' w5,(Builtin.append_ #[24,24] 24 #[.slice oa on oc,.slice (some ⟨w13.heap.size+1,0,none⟩) 1 1]).run Tryz.prog ((w13.alloc (.cells #[.slice p1 p1n p1c,.slice p2 p2n p2c] 27)).alloc (.cells #[.int .i64 num,.slice none 0 0,.slice none 0 0,.slice (some ⟨w13.heap.size,0,none⟩) 1 1] 32))= .ok (.slice a' (on+1) c') w5 ∧
        (w5.cell? ⟨X+1+1+1,0,none⟩=some (.slice oa on oc)∧w5.frozen? ⟨X+1+1+1,0,none⟩=false∧X+1+1+1<w5.heap.size) ∧
        zpF (X+1+1+1+1) wr.heap.size w12.drew w5 ∧
        zd2 (zeE d) 32 4 w0.heap.size 27 (X+1+1+1) [] [uw] W1 (w5.setCell ⟨X+1+1+1,0,none⟩ (.slice a' (on+1) c')) (.slice a' (on+1) c') (o++[⟨num,[],[],[zdw s kp d r U sy]⟩])):=by
       intro w13 p1 p2 p1n p1c p2n p2c hb11 hap
       have h:=(HCN.out w12 HB12.out).2.2.2.1
       have h11:Below wr.heap.size wr w13:=h.trans (hb11.mono h.size)
       have hal:Below w13.heap.size w13 (w13.alloc (.cells #[.slice p1 p1n p1c,.slice p2 p2n p2c] 27)):=(Below.refl _ _).alloc (Nat.le_refl _) _
       have hsz:wr.heap.size≤w13.heap.size:=h11.size
       have hP:zap w0.heap.size wr.heap.size (w13.alloc (.cells #[.slice p1 p1n p1c,.slice p2 p2n p2c] 27)) fun w'=>zeE d w' [.int .i64 num,.slice none 0 0,.slice none 0 0,.slice (some ⟨w13.heap.size,0,none⟩) 1 1] ⟨num,[],[],[zdw s kp d r U sy]⟩:=by
        intro w' hw'
        refine zfD hnb (T:=27) (c1:=.slice p1 p1n p1c) (c2:=.slice p2 p2n p2c) ((hw' w13.heap.size (by simp) (.inr hsz)).trans (Blk.new w13 [.slice p1 p1n p1c,.slice p2 p2n p2c] _)) ?_
        refine hap w' fun b hlt hc=>?_
        have hwz:wr.heap.size≤w12.heap.size:=h.size
        exact (hw' b (by simp;omega) (hc.imp id fun h=>by omega)).trans (hal.block b hlt)
       obtain⟨a',c',w5,h1,-,-,⟨h4,h6,h7,hkp⟩,h5⟩:=HSTAT.out.2.2.2.2.2.2.1.out.1.step (w1:=w13.alloc (.cells #[.slice p1 p1n p1c,.slice p2 p2n p2c] 27)) (h11.trans (hal.mono hsz)) (by decide) (by have:=HSTAT.out.2.2.2.2.1;omega) HSTAT.out.2.2.2.2.2.2.1.out.2.1 24 _ 80 Tryz.underlying24 zfg rfl #[.int .i64 num,.slice none 0 0,.slice none 0 0,.slice (some ⟨w13.heap.size,0,none⟩) 1 1] rfl (by intro u hu;simp at hu;rcases hu with rfl|rfl|rfl|rfl <;> rfl) ⟨num,[],[],[zdw s kp d r U sy]⟩ hP (by omega) (by decide) 0 rfl
       rw[show (w13.alloc (.cells #[.slice p1 p1n p1c,.slice p2 p2n p2c] 27)).heap.size=w13.heap.size+1 by simp] at h1
       refine⟨a',c',w5,h1,⟨h4,h6,h7⟩,fun b hl hc=>?_,h5⟩
       have hl':b<w12.heap.size:=hl
       have hl11:=hb11.size
       rw[hkp b (by simp;omega) hc,Below.heap_alloc _ _ b (by simp;omega),Below.heap_alloc _ _ b (by omega),hb11.block b hl']
       rfl
      rw[hr] at e5
      have hix0:∀ W,(Instr.indexAt 30 (.slice (some ⟨gb,go,none⟩) 1 q3) (.int .i64 0)).run Tryz.prog W= .ok (.pointer (some ⟨gb,go,none⟩)) W:=by
       intro W
       have:=zad Tryz.underlying30 zbX (a:=some ⟨gb,go,none⟩) rfl 0 (by decide:0<1) W (cap:=q3)
       simpa using this
      have HD12:=hid ((Below.refl w12.heap.size w12).drew)
      have hgb:gb<X+1+1+1+1:=by
       have h1:gb<w0.heap.size:=World.block_lt_of_cell? w0 _ gg0
       have:=HSTAT.out.2.2.2.2.1
       omega
      have hge1:=HGE.out
      obtain⟨SS,HSS⟩:∃ SS,Hid (SS=zpF (X+1+1+1+1) wr.heap.size w12.drew):=⟨_,rfl⟩
      have HKF:Hid (∀ V,SS V→(V.cell? ⟨X+1+1+1,0,none⟩=some (.slice oa on oc)∧V.cell? ⟨B,0,none⟩=some (.int .i64 num)∧V.cell? ⟨B,3,none⟩=some (.slice (some ⟨gb,go,none⟩) 1 q3)∧V.cell? ⟨FB,5,none⟩=some (.int .i64 (r:Int))∧V.cell? ⟨MB,0,none⟩=some (.slice ka kn kc)∧V.cell? ⟨gb,go,none⟩=some (.slice s1 s1n s1c)∧V.cell? ⟨gb,go+1,none⟩=some (.slice s2 s2n s2c))):=by
       intro V hV
       rw[HSS.out] at hV
       exact⟨hV.cell (.inl (by omega)) x0,hV.cell (.inr hge1.1) d0,hV.cell (.inr hge1.1) d3,hV.cell (.inr hge1.2.1) e5,hV.cell (.inr hge1.2.2) k0,hV.cell (.inl hgb) g0,hV.cell (.inl hgb) g1⟩
      have HS0:Hid (SS w12.drew):=by rw[HSS.out];exact zpF.refl _ _ _
      have HS1:Hid (∀ w13,Below w12.drew.heap.size w12.drew w13→SS w13):=fun w13 h=>by rw[HSS.out];exact zfF h
      have HS2:Hid (∀ w13 o,Below w12.drew.heap.size w12.drew w13→SS (w13.alloc o)):=fun w13 o h=>by rw[HSS.out];exact zfF (h.alloc h.size o)
      have HS3:Hid (∀ w13 o o',Below w12.drew.heap.size w12.drew w13→SS ((w13.alloc o).alloc o')):=fun w13 o o' h=>by rw[HSS.out];exact zfF ((h.alloc h.size o).alloc (Nat.le_trans h.size (by simp)) o')
      rw[←HSS.out] at HADD2
      have hs0:=HS0.out
      have hkp:=HKP.out
      clear HPV HADD HCN HSTAT HU12 HB12 HKN HUU2 HF HKP hsy hry hr hrs hUne hve hnb hSU hSU3 hge hgat gg0 gg1 hMs hse hB0 hwts h17 hrp HQF'
      subst hkp
      go_upto_region 13 with fail
      clear x0 xl d0 d1 d2 d3 dl e0 e1 e2 e3 e4 e5 el k0 kl g0 g1 gl hge1 hgb
      refine zkY 19 SS (by kernel_rfl) ?_
      refine zaK (i:=0) (oi:=⟨some 59,_,_,_,_,_⟩) (v:=?_) rfl (by kernel_rfl) (by kernel_rfl) (by kernel_rfl) (by kernel_rfl) (fun _ _ _ h=>h) hs0 (Or.inl ⟨by rfl,?_⟩) ?_
      rotate_left
      ·
       (intro V hV;obtain⟨k1,k2,k3,k4,k5,k6,k7⟩:=HKF.out V hV;go_simp;(try with_reducible rfl))
      simp only[Act.put,pzC,pzD,pzE]
      refine zaK (i:=1) (oi:=⟨some 60,_,_,_,_,_⟩) (v:=?_) rfl (by kernel_rfl) (by kernel_rfl) (by kernel_rfl) (by kernel_rfl) (fun _ _ _ h=>h) hs0 (Or.inl ⟨by rfl,?_⟩) ?_
      rotate_left
      ·
       (intro V hV;obtain⟨k1,k2,k3,k4,k5,k6,k7⟩:=HKF.out V hV;go_simp;(try with_reducible rfl))
      simp only[Act.put,pzC,pzD,pzE]
      refine zaK (i:=2) (oi:=⟨some 61,_,_,_,_,_⟩) (v:=?_) rfl (by kernel_rfl) (by kernel_rfl) (by kernel_rfl) (by kernel_rfl) (fun _ _ _ h=>h) hs0 (Or.inl ⟨by rfl,?_⟩) ?_
      rotate_left
      ·
       (intro V hV;obtain⟨k1,k2,k3,k4,k5,k6,k7⟩:=HKF.out V hV;go_simp;(try with_reducible rfl))
      simp only[Act.put,pzC,pzD,pzE]
      refine zaK (i:=3) (oi:=⟨some 62,_,_,_,_,_⟩) (v:=?_) rfl (by kernel_rfl) (by kernel_rfl) (by kernel_rfl) (by kernel_rfl) (fun _ _ _ h=>h) hs0 (Or.inl ⟨by rfl,?_⟩) ?_
      rotate_left
      ·
       (intro V hV;obtain⟨k1,k2,k3,k4,k5,k6,k7⟩:=HKF.out V hV;go_simp;(try with_reducible rfl))
      simp only[Act.put,pzC,pzD,pzE]
      refine zaK (i:=4) (oi:=⟨some 63,_,_,_,_,_⟩) (v:=?_) rfl (by kernel_rfl) (by kernel_rfl) (by kernel_rfl) (by kernel_rfl) (fun _ _ _ h=>h) hs0 (Or.inl ⟨by rfl,?_⟩) ?_
      rotate_left
      ·
       (intro V hV;obtain⟨k1,k2,k3,k4,k5,k6,k7⟩:=HKF.out V hV;go_simp;(try with_reducible rfl))
      simp only[Act.put,pzC,pzD,pzE]
      refine zaK (i:=5) (oi:=⟨some 64,_,_,_,_,_⟩) (v:=?_) rfl (by kernel_rfl) (by kernel_rfl) (by kernel_rfl) (by kernel_rfl) (fun _ _ _ h=>h) hs0 (Or.inl ⟨by rfl,?_⟩) ?_
      rotate_left
      ·
       (intro V hV;obtain⟨k1,k2,k3,k4,k5,k6,k7⟩:=HKF.out V hV;go_simp;(try with_reducible rfl))
      simp only[Act.put,pzC,pzD,pzE]
      refine zaK (i:=6) (oi:=⟨some 65,_,_,_,_,_⟩) (v:=?_) rfl (by kernel_rfl) (by kernel_rfl) (by kernel_rfl) (by kernel_rfl) (fun _ _ _ h=>h) hs0 (Or.inl ⟨by rfl,?_⟩) ?_
      rotate_left
      ·
       (intro V hV;obtain⟨k1,k2,k3,k4,k5,k6,k7⟩:=HKF.out V hV;go_simp;(try with_reducible rfl))
      simp only[Act.put,pzC,pzD,pzE]
      refine zaK (i:=7) (oi:=⟨some 66,_,_,_,_,_⟩) (v:=?_) rfl (by kernel_rfl) (by kernel_rfl) (by kernel_rfl) (by kernel_rfl) (fun _ _ _ h=>h) hs0 (Or.inl ⟨by rfl,?_⟩) ?_
      rotate_left
      ·
       (intro V hV;obtain⟨k1,k2,k3,k4,k5,k6,k7⟩:=HKF.out V hV;go_simp;(try with_reducible rfl))
      simp only[Act.put,pzC,pzD,pzE]
      refine zaK (i:=8) (oi:=⟨some 67,_,_,_,_,_⟩) (v:=?_) rfl (by kernel_rfl) (by kernel_rfl) (by kernel_rfl) (by kernel_rfl) (fun _ _ _ h=>h) hs0 (Or.inl ⟨by rfl,?_⟩) ?_
      rotate_left
      ·
       (intro V hV;obtain⟨k1,k2,k3,k4,k5,k6,k7⟩:=HKF.out V hV;go_simp;(try with_reducible rfl))
      simp only[Act.put,pzC,pzD,pzE]
      refine zaK (i:=9) (oi:=⟨some 68,_,_,_,_,_⟩) (v:=?_) rfl (by kernel_rfl) (by kernel_rfl) (by kernel_rfl) (by kernel_rfl) (fun _ _ _ h=>h) hs0 (Or.inl ⟨by rfl,?_⟩) ?_
      rotate_left
      ·
       (intro V hV;obtain⟨k1,k2,k3,k4,k5,k6,k7⟩:=HKF.out V hV;go_simp;(try with_reducible rfl))
      simp only[Act.put,pzC,pzD,pzE]
      refine zaK (i:=10) (oi:=⟨some 69,_,_,_,_,_⟩) (v:=?_) rfl (by kernel_rfl) (by kernel_rfl) (by kernel_rfl) (by kernel_rfl) (fun _ _ _ h=>h) hs0 (Or.inl ⟨by rfl,?_⟩) ?_
      rotate_left
      ·
       (intro V hV;obtain⟨k1,k2,k3,k4,k5,k6,k7⟩:=HKF.out V hV;go_simp;(try with_reducible rfl))
      simp only[Act.put,pzC,pzD,pzE]
      refine zaK (i:=11) (oi:=⟨some 70,_,_,_,_,_⟩) (v:=?_) rfl (by kernel_rfl) (by kernel_rfl) (by kernel_rfl) (by kernel_rfl) (fun _ _ _ h=>h) hs0 (Or.inl ⟨by rfl,?_⟩) ?_
      rotate_left
      ·
       (intro V hV;obtain⟨k1,k2,k3,k4,k5,k6,k7⟩:=HKF.out V hV;go_simp;(try with_reducible rfl))
      simp only[Act.put,pzC,pzD,pzE]
      refine zaK (i:=12) (oi:=⟨some 71,_,_,_,_,_⟩) (v:=?_) rfl (by kernel_rfl) (by kernel_rfl) (by kernel_rfl) (by kernel_rfl) (fun _ _ _ h=>h) hs0 (Or.inl ⟨by rfl,?_⟩) ?_
      rotate_left
      ·
       (intro V hV;obtain⟨k1,k2,k3,k4,k5,k6,k7⟩:=HKF.out V hV;go_simp;(try with_reducible rfl))
      simp only[Act.put,pzC,pzD,pzE]
      refine zcL (i:=13) (oi:=⟨some 72,_,_,_,_,_⟩) (by kernel_rfl) rfl rfl fun K13 hK13=>?_
      go_simp
      go_at_call 74
      refine (HREC.out _ HD12.out).mono ?_
      rintro e w13 ⟨vM,rfl,hb11,hap⟩
      obtain⟨p1,p1n,p1c,p2,p2n,p2c,rfl⟩:=hap.here.form
      obtain⟨a5,c5,w5,hr5,⟨x5,z5,l5⟩,hk5,hO5⟩:=HADD2.out w13 p1 p2 p1n p1c p2n p2c (zai HD12.out hb11 HD12.out.size) hap
      have HO5:=hid hO5
      have HR5:=hid hr5
      have hs1:=HS1.out _ hb11
      have hs2:=HS2.out _ (.cells #[.slice p1 p1n p1c,.slice p2 p2n p2c] 27) hb11
      have hs3:=HS3.out _ (.cells #[.slice p1 p1n p1c,.slice p2 p2n p2c] 27) (.cells #[.int .i64 num,.slice none 0 0,.slice none 0 0,.slice (some ⟨w13.heap.size,0,none⟩) 1 1] 32) hb11
      clear hO5 hr5 hap hb11
      change K13 _ _
      refine hK13.out _ _ (fun _=>hs1) ?_
      try simp only[Act.put,pzC,pzD,pzE]
      refine zcL (i:=14) (oi:=⟨some 73,_,_,_,_,_⟩) (by kernel_rfl) rfl rfl fun K14 hK14=>?_
      go_simp
      refine hK14.out _ _ (fun _=>hs2) ?_
      try simp only[Act.put,pzC,pzD,pzE]
      refine zcL (i:=15) (oi:=⟨some 74,_,_,_,_,_⟩) (by kernel_rfl) rfl rfl fun K15 hK15=>?_
      go_simp
      refine hK15.out _ _ (fun _=>hs2) ?_
      try simp only[Act.put,pzC,pzD,pzE]
      refine zcL (i:=16) (oi:=⟨some 75,_,_,_,_,_⟩) (by kernel_rfl) rfl rfl fun K16 hK16=>?_
      go_simp
      refine hK16.out _ _ (fun _=>hs3) ?_
      try simp only[Act.put,pzC,pzD,pzE]
      refine zcL (i:=17) (oi:=⟨some 76,_,_,_,_,_⟩) (by kernel_rfl) rfl rfl fun K17 hK17=>?_
      refine zee (.tmp 60) (.tmp 75) _ rfl _ _ rfl rfl HR5.out ?_
      refine hK17.out _ _ (fun _=>hk5) ?_
      try simp only[Act.put,pzC,pzD,pzE]
      refine zaK (i:=18) (oi:=⟨some 77,_,_,_,_,_⟩) (v:=?_) rfl (by kernel_rfl) (by kernel_rfl) (by kernel_rfl) (by kernel_rfl) (fun _ _ _ h=>h) hk5 (Or.inl ⟨by rfl,?_⟩) ?_
      rotate_left
      ·
       (intro V hV;go_simp;(try with_reducible rfl))
      try simp only[Act.put,pzC,pzD,pzE]
      refine zcL (i:=19) (oi:=⟨none,_,_,_,_,_⟩) (by kernel_rfl) rfl rfl fun K19 hK19=>?_
      go_simp
      refine hK19.out _ _ (fun h=>absurd rfl h) ?_
      try simp only[Act.put,pzC,pzD,pzE]
      refine zkZ (by kernel_rfl) ?_ _
      go_wp2_with fail
      go_roundw
      case rel=>exact⟨i+1,_,_,_,on+1,by go_num,hlt,by omega,HREL.out _ _ _ _ _ (by omega) (by rw[HPW.out]) HO5.out⟩
      case measure=>simp[intOf];omega
     ·
      have HPW:Hid (P v=if false=kp then [v] else []):=HSIMP.out fun h=>hcs h.2.2
      have hz:z=false:=by
       rw[HZZ.out]
       by_cases h:fkind=17
       ·
        cases hf:frep with
        | true=>simp
        | false=>exact absurd ⟨h,hf⟩ hcs
       ·
        simp[h]
      subst hz
      have HOX:=hid (HSTAT.out.2.2.2.2.2.2.1.out.1.later (HCN.out w12 HB12.out).2.2.2.1)
      obtain⟨a5,c5,w5,hr5,⟨x5,z5,l5⟩,hO5⟩:=HADD.out w12 HB12.out
      have HO5:=hid hO5
      have hkp:=HKP.out
      subst hkp
      clear hcs HPV HADD HCN hO5 HSTAT HU12 HB12 HKN HUU2 HF HKP HZZ HSIMP
      go_wp2_with (at_builtin;refine zaf rfl _ _ _ rfl _ _ rfl rfl hr5 ?_)
      go_roundw
      case rel=>first|exact⟨i+1,_,_,_,on+1,by go_num,hlt,by omega,HREL.out _ _ _ _ _ (by omega) (by rw[HPW.out];rfl) HO5.out⟩|exact⟨i+1,_,_,_,on,by go_num,hlt,by omega,HREL.out _ _ _ _ _ (by omega) (by rw[HPW.out];simp) HOX.out⟩
      case measure=>simp[intOf];omega
    all_goals
     have HPW:=hid (HSIMP.out (by simp))
     have HOX:=hid (HSTAT.out.2.2.2.2.2.2.1.out.1.later (HCN.out w11 HB10.out).2.2.2.1)
     obtain⟨a5,c5,w5,hr5,⟨x5,z5,l5⟩,hO5⟩:=HADD.out w11 HB10.out
     have HO5:=hid hO5
     have hkp:=HKP.out
     subst hkp
     clear HPV HADD HCN hO5 HSTAT HB10 HKN HUU2 HF HKP HSIMP
     go_wp2_with (at_builtin;refine zaf rfl _ _ _ rfl _ _ rfl rfl hr5 ?_)
     go_roundw
     case rel=>first|exact⟨i+1,_,_,_,on+1,by go_num,hlt,by omega,HREL.out _ _ _ _ _ (by omega) (by rw[HPW.out];rfl) HO5.out⟩|exact⟨i+1,_,_,_,on,by go_num,hlt,by omega,HREL.out _ _ _ _ _ (by omega) (by rw[HPW.out];simp) HOX.out⟩
     case measure=>simp[intOf];omega
   ·
    obtain rfl:i=vn:=by omega
    have HEN:=hid (HFIN.out wr (.slice oa on oc) o (by
     have h:=HJ.out.2.2
     rwa [List.drop_eq_nil_of_le (by rw[←HVN.out];exact Nat.le_refl _),List.flatMap_nil,List.append_nil] at h) (by rw[HJ.out.2.1];omega) HJ.out.1)
    have hR1:Blk wr (X+1+1) [.slice none 0 0,.slice none 0 0] 27:=(HJ.out.1.below.block (X+1+1) (by omega)).trans HR1.out
    have r0:=hR1.cell 0 _ rfl
    have r1:=hR1.cell 1 _ rfl
    have f0:=hR1.free 0
    have f1:=hR1.free 1
    have rl:=hR1.lt
    have o0:=HJ.out.1.cell 0 _ rfl
    have o1:=HJ.out.1.cell 1 _ rfl
    have ol:=HJ.out.1.lt
    rw[HZW.out] at o1 HEN
    have s1:=hR1.set 0 (.slice oa on oc)
    have s2:=s1.set 1 (.slice za zn zc)
    have r3:=s2.cell 0 _ rfl
    have r4:=s2.cell 1 _ rfl
    clear hR1 s1 s2 HVA HOK HWT HUU HX1 HM1 HK1 HR1 HO1 HB1 HBW HZL HFIN HML HRE HP HHW HFS HSN HUN HVN HMN HX HJ HZW HZ1 HW1q HMS HS00
    go_wp2_with fail
    refine bodyPost_ret (v:=.agg #[.slice oa on oc,.slice za zn zc]) ?_ rfl HEN.out
    simp[results,Tryz.results74,go_sem,r3,r4]
theorem zlM {w0:World}{sv:Value}{s:List Mes}(hS0:zaj w0 sv s)(keep:Bool):∀ d,zk2 w0 sv s keep d
 | 0=>fun _ _ _ _ x _ _ _ _ _ _ _ _=>x.elim
 | d+1=>zi1 hS0 keep d (zlM hS0 keep d)
end
end Go.Proofs.YtdpnmdkbdibkpaaGreatDoor
