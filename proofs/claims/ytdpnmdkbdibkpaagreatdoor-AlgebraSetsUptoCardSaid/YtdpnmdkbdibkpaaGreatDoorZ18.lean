/- tree.Copy: a copy of any meaning, in new memory alone, for each depth (TCopyOk). Meanings of at most 2^40 things. -/
import Derived.Test.YtdpnmdkbdibkpaaGreatDoorZ13
import Derived.Test.YtdpnmdkbdibkpaaGreatDoorZ15
import Derived.Test.YtdpnmdkbdibkpaaGreatDoorZ17
import Derived.Deep.CutBlock
namespace Go.Proofs.YtdpnmdkbdibkpaaGreatDoor
set_option maxRecDepth 100000
set_option maxHeartbeats 16000000
section
open Go.RowKit Go.Shelf
theorem znW:(Tryz.prog.info? 27).map (fun i=>(i.zero,i.size,i.bytes))=some (some (.agg #[.slice none 0 0,.slice none 0 0]),2,48):=by kernel_rfl
theorem zfg:(Tryz.prog.info? 32).map (fun i=>(i.zero,i.size,i.bytes))=some (some (.agg #[.int .i64 0,.slice none 0 0,.slice none 0 0,.slice none 0 0]),4,80):=by kernel_rfl
def zkQ (w0:World)(d:Nat):Prop:=∀ (w:World) (v:Value) (x:M d),Below w0.heap.size w0 w→zac d w0 v x→mwt d x≤1099511627776 →
 Calls Tryz.prog 27 #[v] w fun e w'=>∃ v',e= .returned v'∧Below w.heap.size w w'∧zap 0 w.heap.size w' fun w2=>zac d w2 v' x
theorem zmo {w:World}{lo n:Nat}{a:Option Addr}{c:Nat}{l:List Nat}(h:zcq w lo (.slice a n c) l)(hl:l.length≤1099511627776)(h64:∀ x∈l,x<2 ^ 64):zcc 0 lo w.heap.size w fun w2=>zbn w2 (.slice a n c) l:=
 fun w' hw'=>⟨zbo (zbk h fun b _ hb he=>hw' b (.inr ⟨hb,(Array.getElem?_eq_some_iff.1 he).1⟩)) (by omega),h64⟩
theorem zj2 {w:World}{lo n:Nat}{a:Option Addr}{c:Nat}{l:List (List UInt8)}(h:zaq w lo (.slice a n c) l)(hl:l.length≤1099511627776)(h64:∀ x∈l,x.length≤140737488355328):zcc 0 lo w.heap.size w fun w2=>zaV w2 (.slice a n c) l:=
 fun w' hw'=>⟨zbo (zbk h fun b _ hb he=>hw' b (.inr ⟨hb,(Array.getElem?_eq_some_iff.1 he).1⟩)) (by omega),h64⟩
theorem zoJ {w:World}{p:Nat}{a b c e:Value}{T:TypeId}(h:Blk w p [.int .i64 0,.slice none 0 0,.slice none 0 0,.slice none 0 0] T) :
  Blk ((((w.setCell ⟨p,0,none⟩ a).setCell ⟨p,1,none⟩ b).setCell ⟨p,2,none⟩ c).setCell ⟨p,3,none⟩ e) p [a,b,c,e] T∧But p w ((((w.setCell ⟨p,0,none⟩ a).setCell ⟨p,1,none⟩ b).setCell ⟨p,2,none⟩ c).setCell ⟨p,3,none⟩ e):=by
 have h1:=h.set 0 a
 have h2:=h1.set 1 b
 have h3:=h2.set 2 c
 have h4:=h3.set 3 e
 exact⟨h4,(((But.set h 0 a).trans (But.set h1 1 b)).trans (But.set h2 2 c)).trans (But.set h3 3 e)⟩
theorem zhK {w0:World}(d:Nat)(hrec:zkQ w0 d):zkQ w0 (d+1):=by
 intro w v x hw hx hwt
 have HWT:=hid hwt
 have HRE:=hid hrec
 have hul:=zgZ x hwt
 obtain⟨vv,uv,rfl,hV,hU⟩:=hx
 obtain⟨-,va,vc,rfl,-,hva⟩:=hV.open
 obtain⟨-,ua,uc,huv,-,-⟩:=hU.open
 obtain⟨un,HUN⟩:∃ n,Hid (n=(M.unk x).length):=⟨_,rfl⟩
 obtain⟨vn,HVN⟩:∃ n,Hid (n=(M.vals x).length):=⟨_,rfl⟩
 rw[←HUN.out] at huv
 subst huv
 rw[←HVN.out] at hV ⊢
 have hvn:vn≤1099511627776:=by rw[HVN.out];exact hul.2
 have hun:un≤1099511627776:=by rw[HUN.out];exact hul.1
 obtain⟨Q,HQ⟩:∃ Q:Ending→World→Prop,Hid (Q=fun e w'=>∃ v',e= .returned v'∧Below w.heap.size w w'∧zap 0 w.heap.size w' fun w2=>zac (d+1) w2 v' x):=⟨_,rfl⟩
 rw[←HQ.out]
 obtain⟨X,HX⟩:∃ X,Hid (X=w.heap.size):=⟨_,rfl⟩
 have HHW:=hid hw
 have HVA:=hid hva
 obtain⟨W0,HW0⟩:∃ W,Hid (W=(w.alloc (.cells #[.slice va vn vc,.slice ua un uc] 27)).alloc (.cells #[.slice none 0 0,.slice none 0 0] 27)):=⟨_,rfl⟩
 have hb0:Below w.heap.size w W0:=by rw[HW0.out];(with_reducible repeat first|exact Below.refl _ _|refine pzA ?_ _|refine pzB ?_ _|refine zab ?_ _|refine Below.drew ?_)
 have hk0:Blk W0 X [.slice va vn vc,.slice ua un uc] 27:=by rw[HW0.out,HX.out];exact (Blk.new w [.slice va vn vc,.slice ua un uc] _).alloc _
 have hk1:Blk W0 (X+1) [.slice none 0 0,.slice none 0 0] 27:=by rw[HW0.out,HX.out];exact Blk.new' _ [.slice none 0 0,.slice none 0 0] _ _ (by simp)
 have hz0:Hid (W0.heap.size=X+2):=by rw[HW0.out,HX.out];simp[Hid]
 have HCL:=hid (zid (w:=W0) ((hU.keep (zaa hw)).keep (zaa hb0)) HUN.out hun)
 have HU64:=hid hU.2
 have HB0:=hid hb0
 have x1:=hk0.cell 1 _ rfl
 have xl:=hk0.lt
 have HBK:=hid (And.intro hk0 hk1)
 clear hw hva hV hU hrec hwt hb0 hk0 hk1 hul
 go_enter Tryz.func27,Tryz.ntmps27
 go_upto_region 1 with fail
 rw[←HW0.out,←HX.out]
 go_upto_region 2 with (go_at_call 62;refine HCL.out.mono ?_;rintro e w3 ⟨a3,c3,rfl,hO3,hb3⟩)
 obtain⟨W1,HW1⟩:∃ W1,Hid (W1=w3.alloc (.cells #[.slice none 0 0,.slice a3 un c3] 27)):=⟨_,rfl⟩
 obtain⟨O,HOO⟩:∃ O,Hid (O=w3.heap.size):=⟨_,rfl⟩
 rw[←HW1.out,←HOO.out]
 have hb31:Below w3.heap.size w3 W1:=by rw[HW1.out];(with_reducible repeat first|exact Below.refl _ _|refine pzA ?_ _|refine pzB ?_ _|refine zab ?_ _|refine Below.drew ?_)
 have ho1:Blk W1 O ([] ++ .slice none 0 0::[.slice a3 un c3]) 27:=by rw[HW1.out,HOO.out];exact Blk.new w3 [.slice none 0 0,.slice a3 un c3] _
 have hOX:X+2≤O:=by rw[HOO.out];exact Nat.le_trans (Nat.le_of_eq hz0.out.symm) hb3.size
 have HX1:=hid (((HBK.out.1.below hb3).below hb31))
 have HR1:=hid (((HBK.out.2.below hb3).below hb31))
 have HB1:=hid (HB0.out.trans ((hb3.trans (hb31.mono hb3.size)).mono HB0.out.size))
 have HUK:Hid (∀ w2,(∀ b,b<O→X+2≤b→w2.heap[b]?=W1.heap[b]?)→zaV w2 (.slice a3 un c3) (M.unk x)):=fun w2 hw2=>by
  have hk:=zj2 hO3 (by rw[←HUN.out];exact hun) HU64.out
  refine hk w2 fun b hc=>?_
  obtain h|⟨h1,h2⟩:=hc
  ·
   omega
  ·
   rw[←HOO.out] at h2
   rw[hz0.out] at h1
   exact (hw2 b h2 h1).trans (hb31.block b (by rw[←HOO.out];exact h2))
 have HO1:Hid (zd2 (zeE d) 32 4 0 27 O [] [.slice a3 un c3] W1 W1 (.slice none 0 0) []):=zd2.start ho1
 have HOX:=hid hOX
 have HBW:Hid (∀ wr,Below O W1 wr→Below X w wr):=fun wr h=>by rw[HX.out];exact HB1.out.trans (h.mono (by have:=HOX.out;have:=HX.out;omega))
 have HFIN:Hid (∀ (W:World) (v':Value),zd2 (zeE d) 32 4 0 27 O [] [.slice a3 un c3] W1 W v' (M.vals x)→Q (.returned (.agg #[v',.slice a3 un c3])) ((W.setCell ⟨X+1,0,none⟩ v').setCell ⟨X+1,1,none⟩ (.slice a3 un c3))):=by
  intro W v' hO
  have hB:Below X w ((W.setCell ⟨X+1,0,none⟩ v').setCell ⟨X+1,1,none⟩ (.slice a3 un c3)):=((HBW.out W hO.below).setCell (by show X≤X+1;omega) _).setCell (by show X≤X+1;omega) _
  rw[HQ.out]
  refine⟨_,rfl,by rw[←HX.out];exact hB,fun w2 hw2=>?_⟩
  rw[←HX.out] at hw2
  have hOl:=hO.lt
  have hag:∀ b,b<W.heap.size→X+2≤b→w2.heap[b]?=W.heap[b]?:=by
   intro b hlt hc
   have hne:b≠X+1:=by omega
   refine (hw2 b (by simpa using hlt) (.inr (by omega))).trans ?_
   rw[Below.heap_setCell _ _ _ b hne,Below.heap_setCell _ _ _ b hne]
  have hOX:=HOX.out
  exact⟨v',.slice a3 un c3,rfl,hO.at (by rw[←HVN.out];omega) (fun b h1 h2=>hag b h1 (by omega)),HUK.out w2 fun b h1 h2=>(hag b (by omega) h2).trans (hO.below.block b h1)⟩
 have x0:=HX1.out.cell 0 _ rfl
 have xl:=HX1.out.lt
 clear hb3 hb31 ho1 hOX hO3 x1
 go_wp2_with fail
 go_loopw [16] (fun v4 wr=>∃ (i:Nat) (oa:Option Addr) (oc:Nat),v4= .int .i64 (i:Int)∧i≤vn∧Hid (zd2 (zeE d) 32 4 0 27 O [] [.slice a3 un c3] W1 wr (.slice oa i oc) ((M.vals x).take i))) (fun v4 _=>vn - (intOf v4).toNat)
 case atStart=>exact⟨0,none,0,rfl,by omega,HO1.out⟩
 case round =>
  obtain⟨i,oa,oc,rfl,hi,HJ⟩:=hrel
  clear x0 xl
  by_cases hlt:i<vn
  ·
   obtain⟨v,hv⟩:∃ v,(M.vals x)[i]?=some v:=⟨_,List.getElem?_eq_getElem (by rw[←HVN.out];exact hlt)⟩
   have HBW0:=hid (HBW.out wr HJ.out.below)
   have HB0:=hid (HHW.out.trans ((HBW0.out.mono (Nat.le_of_eq HX.out.symm)).mono HHW.out.size))
   obtain⟨b,o',v1,v2,v3,ha,g0,g1,g2,g3,hM⟩:=HVA.out i v hv
   obtain⟨wv,tv,sv,hform,hnum,hWo,hTe,hSu⟩:=hM
   obtain⟨-,a1,q1,rfl,-,-⟩:=hWo.open
   obtain⟨-,a2,q2,rfl,-,-⟩:=hTe.open
   obtain⟨hsl,a4,q4,rfl,-,hsa⟩:=hSu.open
   obtain⟨rfl,rfl,rfl⟩:v1= .slice a1 v.words.length q1∧v2= .slice a2 v.texts.length q2∧v3= .slice a4 v.subs.length q4:=by cases hform;exact⟨rfl,rfl,rfl⟩
   clear hform
   obtain⟨num,HNUM⟩:∃ n,Hid (n=v.num):=⟨_,rfl⟩
   obtain⟨n1,HN1⟩:∃ n,Hid (n=v.words.length):=⟨_,rfl⟩
   obtain⟨n2,HN2⟩:∃ n,Hid (n=v.texts.length):=⟨_,rfl⟩
   obtain⟨n3,HN3⟩:∃ n,Hid (n=v.subs.length):=⟨_,rfl⟩
   rw[←HNUM.out] at g0 hnum
   rw[←HN1.out] at g1 hWo
   rw[←HN2.out] at g2 hTe
   rw[←HN3.out] at g3 hSu
   have hkr:=zaa HB0.out
   replace g0:=hkr _ _ g0
   replace g1:=hkr _ _ g1
   replace g2:=hkr _ _ g2
   replace g3:=hkr _ _ g3
   have hix:=zad Tryz.underlying24 zdd ha i hlt (cap:=vc)
   have hbl:=World.block_lt_of_cell? wr _ g0
   have hX1:Blk wr X [.slice va vn vc,.slice ua un uc] 27:=(HJ.out.below.block X (by have:=HOX.out;omega)).trans HX1.out
   have x0:=hX1.cell 0 _ rfl
   have xl:=hX1.lt
   have HVW:Hid (vwt (mwt d) v≤1099511627776):=by
    have h1:=zau (vwt (mwt d)) (M.vals x) v (List.mem_of_getElem? hv)
    have h2:=HWT.out
    have e:mwt (d+1) x=1+twt (M.unk x)+((M.vals x).map (vwt (mwt d))).sum:=rfl
    show _≤_
    omega
   have HTK:Hid ((M.vals x).take (i+1)=(M.vals x).take i++[v]):=by rw[Hid,List.take_add_one,hv];rfl
   have HLEN:Hid (((M.vals x).take i).length=i):=by rw[Hid,List.length_take,←HVN.out];omega
   have htl:∀ l:List (List UInt8),l.length≤twt l:=fun l=>by
    induction l with
    | nil=>simp
    | cons t l ih=>unfold twt at *;simp;omega
   have hn123:n1≤1099511627776∧n2≤1099511627776∧n3≤1099511627776:=by
    have h1:=zgY v.subs d rfl
    have h2:=HVW.out
    have h3:=htl v.texts
    have e:vwt (mwt d) v=1+v.words.length+twt v.texts+(v.subs.map (mwt d)).sum:=rfl
    rw[HN1.out,HN2.out,HN3.out];omega
   obtain⟨hn1,hn2,hn3⟩:=hn123
   obtain⟨B,HBB⟩:∃ B,Hid (B=wr.heap.size):=⟨_,rfl⟩
   obtain⟨W6,HW6⟩:∃ W6,Hid (W6=wr.alloc (.cells #[.int .i64 num,.slice a1 n1 q1,.slice a2 n2 q2,.slice a4 n3 q4] 32)):=⟨_,rfl⟩
   have hb6:Below wr.heap.size wr W6:=by rw[HW6.out];exact (Below.refl _ _).alloc (Nat.le_refl _) _
   have hz6:Hid (W6.heap.size=B+1):=by rw[HW6.out,HBB.out];simp[Hid]
   have hv6:Blk W6 B [.int .i64 num,.slice a1 n1 q1,.slice a2 n2 q2,.slice a4 n3 q4] 32:=by rw[HW6.out,HBB.out];exact Blk.new wr [.int .i64 num,.slice a1 n1 q1,.slice a2 n2 q2,.slice a4 n3 q4] _
   have HV6:=hid hv6
   have HB6:=hid hb6
   have HB06:=hid (HB0.out.trans (hb6.mono HB0.out.size))
   have HCW:Hid (∀ W,Below W6.heap.size W6 W→Calls Tryz.prog 63 #[.slice a1 n1 q1] W fun e w'=>∃ a' c',e= .returned (.slice a' n1 c')∧zcq w' W.heap.size (.slice a' n1 c') v.words∧Below W.heap.size W w'):=fun W hW =>
    zkJ (hWo.keep (zaa (HB06.out.trans (hW.mono HB06.out.size)))) HN1.out hn1
   have HCT:Hid (∀ W,Below W6.heap.size W6 W→Calls Tryz.prog 62 #[.slice a2 n2 q2] W fun e w'=>∃ a' c',e= .returned (.slice a' n2 c')∧zaq w' W.heap.size (.slice a' n2 c') v.texts∧Below W.heap.size W w'):=fun W hW =>
    zid (hTe.keep (zaa (HB06.out.trans (hW.mono HB06.out.size)))) HN2.out hn2
   have HWTS:=hid (And.intro hnum (And.intro hWo.2 hTe.2))
   have HSA:=hid hsa
   have HVC:Hid (W6.cell? ⟨B,0,none⟩=some (.int .i64 num)∧W6.cell? ⟨B,1,none⟩=some (.slice a1 n1 q1)∧W6.cell? ⟨B,2,none⟩=some (.slice a2 n2 q2)∧W6.cell? ⟨B,3,none⟩=some (.slice a4 n3 q4)):=⟨hv6.cell 0 _ rfl,hv6.cell 1 _ rfl,hv6.cell 2 _ rfl,hv6.cell 3 _ rfl⟩
   clear hv hkr hb6 hv6 ha hnum hWo hTe hSu hsl hsa htl
   go_upto_region 5 with fail
   rw[←HW6.out,←HBB.out]
   clear g0 g1 g2 g3 hix hbl x0 xl hX1
   refine zd1 (fun w'=>Below W6.heap.size W6 w'∧w'.cell? ⟨B,0,none⟩=some (.int .i64 num)∧w'.cell? ⟨B,1,none⟩=some (.slice a1 n1 q1)∧w'.cell? ⟨B,2,none⟩=some (.slice a2 n2 q2)∧w'.cell? ⟨B,3,none⟩=some (.slice a4 n3 q4)) 10 ⟨9,6,[.int .i64 0,.slice none 0 0,.slice none 0 0,.slice none 0 0],32⟩ [(0,0),(1,0),(2,0),(3,0),(5,0),(6,0),(4,1),(7,1),(8,0)] [(10,2,0)] (by kernel_rfl) rfl rfl (by kernel_rfl) (by kernel_rfl) (fun _ _ dst _ _ h=>by cases dst <;> exact h) ⟨_,rfl,rfl,rfl,fun a w=>by kernel_rfl⟩ (fun w w' h hb=>⟨h.1.trans (hb.mono h.1.size),⟨zaa hb _ _ h.2.1,zaa hb _ _ h.2.2.1,zaa hb _ _ h.2.2.2.1,zaa hb _ _ h.2.2.2.2⟩⟩) W6.heap.size (fun w h=>h.1.size) ⟨(Below.refl _ _).drew,HVC.out⟩ (fun OPS _=>?_)
   simp only[List.map_cons,List.map_nil,List.filterMap_cons,List.filterMap_nil,List.getElem?_cons_succ,List.getElem?_cons_zero]
   refine zcz (v:=?v0) ?hy0 ?hr0
   case hy0=>(intro u w hw;unfold zbw;simp only[Act.put,pzC,pzD,pzE];go_simp;all_goals rfl)
   simp only[Act.put,pzC,pzD,pzE]
   refine zcz (v:=?v1) ?hy1 ?hr1
   case hy1=>(intro u w hw;unfold zbw;simp only[Act.put,pzC,pzD,pzE];go_simp;all_goals rfl)
   simp only[Act.put,pzC,pzD,pzE]
   refine zcz (v:=?v2) ?hy2 ?hr2
   case hy2=>(intro u w hw;unfold zbw;simp only[Act.put,pzC,pzD,pzE];go_simp;all_goals rfl)
   simp only[Act.put,pzC,pzD,pzE]
   refine zcz (v:=?v3) ?hy3 ?hr3
   case hy3=>(intro u w hw;unfold zbw;simp only[Act.put,pzC,pzD,pzE];go_simp;all_goals rfl)
   simp only[Act.put,pzC,pzD,pzE]
   refine zcz (v:=?v4) ?hy4 ?hr4
   case hy4=>(intro u w hw;unfold zbw;simp only[Act.put,pzC,pzD,pzE];go_simp;all_goals rfl)
   simp only[Act.put,pzC,pzD,pzE]
   refine zcz (v:=?v5) ?hy5 ?hr5
   case hy5=>(intro u w hw;unfold zbw;simp only[Act.put,pzC,pzD,pzE];go_simp;all_goals rfl)
   simp only[Act.put,pzC,pzD,pzE]
   intro u w7 hV7 K HKK
   have HV7:=hid hV7
   clear hV7
   unfold zbw
   simp only[Act.put,pzC,pzD,pzE]
   go_wp2_with fail
   refine (HCW.out w7 HV7.out.1).mono ?_
   rintro e w8 ⟨a5,q5,rfl,hO8,hb8⟩
   go_wp2_with fail
   refine HKK.out (.slice a5 n1 q5) w8 (fun W=>(Below W6.heap.size W6 W∧W.cell? ⟨B,0,none⟩=some (.int .i64 num)∧W.cell? ⟨B,1,none⟩=some (.slice a1 n1 q1)∧W.cell? ⟨B,2,none⟩=some (.slice a2 n2 q2)∧W.cell? ⟨B,3,none⟩=some (.slice a4 n3 q4))∧w8.heap.size≤W.heap.size∧zcc 0 w7.heap.size w8.heap.size W (fun W2=>zbn W2 (.slice a5 n1 q5) v.words)) (fun W W' h hb=>⟨⟨h.1.1.trans (hb.mono h.1.1.size),⟨zaa hb _ _ h.1.2.1,zaa hb _ _ h.1.2.2.1,zaa hb _ _ h.1.2.2.2.1,zaa hb _ _ h.1.2.2.2.2⟩⟩,Nat.le_trans h.2.1 hb.size,h.2.2.below (Nat.zero_le _) h.2.1 hb⟩) (fun W h=>h.1) (fun W h=>h.2.1) ⟨⟨HV7.out.1.trans (hb8.mono HV7.out.1.size),⟨zaa hb8 _ _ HV7.out.2.1,zaa hb8 _ _ HV7.out.2.2.1,zaa hb8 _ _ HV7.out.2.2.2.1,zaa hb8 _ _ HV7.out.2.2.2.2⟩⟩,Nat.le_refl _,zmo hO8 (by rw[←HN1.out];exact hn1) HWTS.out.2.1⟩ hb8 ?_
   simp only[Act.put,pzC,pzD,pzE]
   have HW67:=hid HV7.out.1.size
   clear HV7 hO8 hb8 HKK u
   intro u w9 hV9 K HKK
   have HV9:=hid hV9
   clear hV9
   unfold zbw
   simp only[Act.put,pzC,pzD,pzE]
   go_wp2_with fail
   refine (HCT.out w9 HV9.out.1.1).mono ?_
   rintro e w10 ⟨a6,q6,rfl,hO10,hb10⟩
   go_wp2_with fail
   refine HKK.out (.slice a6 n2 q6) w10 (fun W=>(Below W6.heap.size W6 W∧W.cell? ⟨B,0,none⟩=some (.int .i64 num)∧W.cell? ⟨B,1,none⟩=some (.slice a1 n1 q1)∧W.cell? ⟨B,2,none⟩=some (.slice a2 n2 q2)∧W.cell? ⟨B,3,none⟩=some (.slice a4 n3 q4))∧w10.heap.size≤W.heap.size∧w8.heap.size≤W.heap.size∧zcc 0 w7.heap.size w8.heap.size W (fun W2=>zbn W2 (.slice a5 n1 q5) v.words)∧zcc 0 w9.heap.size w10.heap.size W (fun W2=>zaV W2 (.slice a6 n2 q6) v.texts)) (fun W W' h hb=>⟨⟨h.1.1.trans (hb.mono h.1.1.size),⟨zaa hb _ _ h.1.2.1,zaa hb _ _ h.1.2.2.1,zaa hb _ _ h.1.2.2.2.1,zaa hb _ _ h.1.2.2.2.2⟩⟩,Nat.le_trans h.2.1 hb.size,Nat.le_trans h.2.2.1 hb.size,h.2.2.2.1.below (Nat.zero_le _) h.2.2.1 hb,h.2.2.2.2.below (Nat.zero_le _) h.2.1 hb⟩) (fun W h=>⟨h.1,h.2.2.1,h.2.2.2.1⟩) (fun W h=>h.2.1) ⟨⟨HV9.out.1.1.trans (hb10.mono HV9.out.1.1.size),⟨zaa hb10 _ _ HV9.out.1.2.1,zaa hb10 _ _ HV9.out.1.2.2.1,zaa hb10 _ _ HV9.out.1.2.2.2.1,zaa hb10 _ _ HV9.out.1.2.2.2.2⟩⟩,Nat.le_refl _,Nat.le_trans HV9.out.2.1 hb10.size,HV9.out.2.2.below (Nat.zero_le _) HV9.out.2.1 hb10,zj2 hO10 (by rw[←HN2.out];exact hn2) HWTS.out.2.2⟩ hb10 ?_
   simp only[Act.put,pzC,pzD,pzE]
   have HW69:=hid HV9.out.1.1.size
   clear HV9 hO10 hb10 HKK u
   refine zcz (v:=?v20) ?hy20 ?hr20
   case hy20=>(intro u w hw;unfold zbw;simp only[Act.put,pzC,pzD,pzE];go_simp;all_goals rfl)
   simp only[Act.put,pzC,pzD,pzE]
   intro p w11 hV11 hP hR hk
   unfold zbw zlB
   simp only[Act.put,pzC,pzD,pzE]
   obtain⟨Y,HY⟩:∃ Y,Hid (Y=(((w11.setCell ⟨p,0,none⟩ (.int .i64 num)).setCell ⟨p,1,none⟩ (.slice a5 n1 q5)).setCell ⟨p,2,none⟩ (.slice a6 n2 q6)).setCell ⟨p,3,none⟩ (.slice none 0 0)):=⟨_,rfl⟩
   obtain⟨hk2,hbut⟩:=zoJ (a:=.int .i64 num) (b:=.slice a5 n1 q5) (c:=.slice a6 n2 q6) (e:=.slice none 0 0) hk
   rw[←HY.out] at hk2 hbut
   have hr1:=hR (w7.heap.size,w8.heap.size) (by simp)
   have hr2:=hR (w9.heap.size,w10.heap.size) (by simp)
   have HR1P:=hid (And.intro hr1 hr2)
   have HKW:=hid (hV11.2.2.2.1.but hbut hV11.2.2.1 hr1)
   have HKT:=hid (hV11.2.2.2.2.but hbut hV11.2.1 hr2)
   have hYB:Below W6.heap.size W6 Y:=hV11.1.1.trans (hbut.to_below hP hV11.1.1.size)
   have HYB:=hid hYB
   have HSZ:Hid (w8.heap.size≤Y.heap.size∧w10.heap.size≤Y.heap.size):=⟨Nat.le_trans hV11.2.2.1 hbut.size,Nat.le_trans hV11.2.1 hbut.size⟩
   have HPB:=hid hP
   have HOC:Hid (zhe (SubP d) 27 2 0 32 p [.int .i64 num,.slice a5 n1 q5,.slice a6 n2 q6] [] Y Y (.slice none 0 0) []):=zhe.start hk2
   have hYV:=HV6.out.below hYB
   have y3:=hYV.cell 3 _ rfl
   have yl:=hYV.lt
   have p0:=hk.cell 0 _ rfl
   have p1:=hk.cell 1 _ rfl
   have p2:=hk.cell 2 _ rfl
   have p3:=hk.cell 3 _ rfl
   have f0:=hk.free 0
   have f1:=hk.free 1
   have f2:=hk.free 2
   have f3:=hk.free 3
   have pl:=hk.lt
   have hVY:(fun W=>(Below W6.heap.size W6 W∧W.cell? ⟨B,0,none⟩=some (.int .i64 num)∧W.cell? ⟨B,1,none⟩=some (.slice a1 n1 q1)∧W.cell? ⟨B,2,none⟩=some (.slice a2 n2 q2)∧W.cell? ⟨B,3,none⟩=some (.slice a4 n3 q4))∧w10.heap.size≤W.heap.size∧w8.heap.size≤W.heap.size∧zcc 0 w7.heap.size w8.heap.size W (fun W2=>zbn W2 (.slice a5 n1 q5) v.words)∧zcc 0 w9.heap.size w10.heap.size W (fun W2=>zaV W2 (.slice a6 n2 q6) v.texts)) Y:=
    ⟨⟨hYB,hYV.cell 0 _ rfl,hYV.cell 1 _ rfl,hYV.cell 2 _ rfl,hYV.cell 3 _ rfl⟩,HSZ.out.2,HSZ.out.1,HKW.out,HKT.out⟩
   have HVY:=hid hVY
   clear hV11 hk hk2 hbut hP hR hr1 hr2 hYB hYV hVY
   refine zfz (fun K12 HK12=>?_)
   go_wp2_with fail
   rw[←HY.out]
   refine HK12.out _ _ HVY.out ?_
   clear HK12 K12 p0 p1 p2 p3 f0 f1 f2 f3 pl
   intro _
   refine zbQ ?_
   have HYS:Hid (B<Y.heap.size∧B<p):=⟨yl,by have:=HPB.out;have:=hz6.out;show B<p;omega⟩
   clear HVY HCW HCT HVC
   go_wp2_with fail
   obtain⟨w5,hw5⟩:∃ u,u=wr:=⟨_,rfl⟩
   rw[←hw5] at HJ HBB HB0 HBW0 HB6 HW6
   clear hw5 y3 yl
   go_loopw [32] (fun v7 wr=>∃ (k:Nat) (sa:Option Addr) (sc:Nat),v7= .int .i64 (k:Int)∧k≤n3∧Hid (zhe (SubP d) 27 2 0 32 p [.int .i64 num,.slice a5 n1 q5,.slice a6 n2 q6] [] Y wr (.slice sa k sc) (v.subs.take k))) (fun v7 _=>n3 - (intOf v7).toNat)
   case atStart=>exact⟨0,none,0,rfl,by omega,HOC.out⟩
   case round =>
    obtain⟨k,sa,sc,rfl,hk,HI⟩:=hrel
    have hB67:Below W6.heap.size W6 wr:=HYB.out.trans (HI.out.but.to_below HPB.out HYB.out.size)
    have HB5:=hid (HB6.out.trans (hB67.mono HB6.out.size))
    have HB0r:=hid (HB0.out.trans (HB5.out.mono HB0.out.size))
    have hVB:Blk wr B [.int .i64 num,.slice a1 n1 q1,.slice a2 n2 q2,.slice a4 n3 q4] 32:=HV6.out.below hB67
    have d3:=hVB.cell 3 _ rfl
    have dl:=hVB.lt
    have HI3:=HI.out.cell 3 _ rfl
    have hil:=HI.out.lt
    have hif:=HI.out.free 3
    by_cases hlk:k<n3
    ·
     obtain⟨y,hy⟩:∃ y,v.subs[k]?=some y:=⟨_,List.getElem?_eq_getElem (by rw[←HN3.out];exact hlk)⟩
     obtain⟨b,o,v1,v2,ha,g0,g1,hM⟩:=HSA.out k y hy
     have HMY:Hid (mwt d y≤1099511627776):=by
      have h1:=zau (mwt d) v.subs y (List.mem_of_getElem? hy)
      have h2:=HVW.out
      have e:vwt (mwt d) v=1+v.words.length+twt v.texts+(v.subs.map (mwt d)).sum:=rfl
      show _≤_
      omega
     have HTKS:Hid (v.subs.take (k+1)=v.subs.take k++[y]):=by rw[Hid,List.take_add_one,hy];rfl
     have HSL:Hid ((v.subs.take k).length=k):=by rw[Hid,List.length_take,←HN3.out];omega
     have hkr:=zaa HB0r.out
     replace g0:=hkr _ _ g0
     replace g1:=hkr _ _ g1
     obtain⟨z1,m1,r1,z2,m2,r2,e⟩:=hM.form
     cases e
     have hix:=zad Tryz.underlying30 zbX ha k hlk (cap:=q4)
     have gl:=World.block_lt_of_cell? wr _ g0
     obtain⟨W8,HW8⟩:∃ W,Hid (W=wr.alloc (.cells #[.slice z1 m1 r1,.slice z2 m2 r2] 27)):=⟨_,rfl⟩
     obtain⟨G,HG⟩:∃ G,Hid (G=wr.heap.size):=⟨_,rfl⟩
     have hb8:Below wr.heap.size wr W8:=by rw[HW8.out];(with_reducible repeat first|exact Below.refl _ _|refine pzA ?_ _|refine pzB ?_ _|refine zab ?_ _|refine Below.drew ?_)
     have hy8:Blk W8 G [.slice z1 m1 r1,.slice z2 m2 r2] 27:=by rw[HW8.out,HG.out];exact Blk.new wr [.slice z1 m1 r1,.slice z2 m2 r2] _
     have HC:=hid (HRE.out W8.drew _ y (HB0r.out.trans (hb8.mono HB0r.out.size)).drew hM HMY.out)
     have HI8:=hid (HI.out.later hb8)
     have hI8:=HI8.out
     have e0:W8.drew.cell? ⟨p,3,none⟩=some (.slice sa k sc):=hI8.cell 3 _ rfl
     have k01:W8.drew.cell? ⟨G,0,none⟩=some (.slice z1 m1 r1):=hy8.cell 0 _ rfl
     have k02:W8.drew.cell? ⟨G,1,none⟩=some (.slice z2 m2 r2):=hy8.cell 1 _ rfl
     have hil:=hI8.lt
     have hif:=hI8.free 3
     have c0:=hI8.cell 3 _ rfl
     have c1:=hy8.cell 0 _ rfl
     have c2:=hy8.cell 1 _ rfl
     have gl:=hy8.lt
     have HPG:Hid (p<Y.heap.size∧Y.heap.size≤G):=⟨HI.out.lt3,by rw[HG.out];exact HI.out.but.size⟩
     have hpg:p≠G:=by have:=HPG.out;omega
     clear hM hy hkr ha hb8 hVB hI8
     go_upto_region 9 with fail
     rw[←HW8.out,←HG.out]
     clear hix g0 g1 d3 dl HI3
     go_wp2_with fail
     go_region_law (first|(go_simp;go_at_call 27;(with_reducible refine HC.out.mono ?_);rintro e w1 ⟨vm,rfl,hbm,hap⟩;obtain⟨p1,p1n,p1c,p2,p2n,p2c,rfl⟩:=hap.here.form;have hk1:∀ p u,W8.drew.cell? p=some u→w1.cell? p=some u:=zaa hbm;have e1:w1.cell? ⟨p,3,none⟩=some (.slice sa k sc):=hk1 _ _ e0;have k11:=hk1 _ _ k01;have k12:=hk1 _ _ k02;obtain⟨a9,q9,w9,hr9,hB9,⟨e5,z3,l9⟩,hO9⟩:=HI8.out.step ((Below.refl W8.heap.size W8).drew.trans hbm) (by decide) (Nat.zero_le _) HSL.out 30 _ 48 Tryz.underlying30 znW rfl #[.slice p1 p1n p1c,.slice p2 p2n p2c] rfl (by intro u hu;simp at hu;rcases hu with rfl|rfl <;> rfl) y hap (by omega) (by decide) 3 rfl;have e4:(w1.alloc (.cells #[.slice p1 p1n p1c,.slice p2 p2n p2c] 27)).cell? ⟨p,3,none⟩=some (.slice sa k sc):=zaa ((Below.refl w1.heap.size w1).alloc (Nat.le_refl _) _) _ _ e1;have HR9:=hid hr9;have HO9:=hid hO9;clear hr9 hO9 hk1)|(refine zaQ rfl (.tmp 37) (.tmp 40) _ rfl _ _ rfl rfl HR9.out ?_))
     all_goals
      go_wp2_with fail
      go_roundw
      case rel=>exact⟨k+1,_,_,by go_num,hlk,by rw[HTKS.out];exact HO9.out⟩
      case measure=>simp[intOf];omega
    ·
     obtain rfl:k=n3:=by omega
     have hI:=HI.out
     rw[show v.subs.take k=v.subs from by rw[HN3.out,List.take_length]] at hI
     have b0:=hI.cell 0 _ rfl
     have b1:=hI.cell 1 _ rfl
     have b2:=hI.cell 2 _ rfl
     have HII:=hid hI
     have hJ:=HJ.out.later HB5.out
     have hVv:zap 0 w5.heap.size wr fun w'=>zeE d w' [.int .i64 num,.slice a5 n1 q5,.slice a6 n2 q6,.slice sa k sc] v:=fun w' hw'=>by
      have hW:=HKW.out.but hI.but HSZ.out.1 HR1P.out.1
      have hT:=HKT.out.but hI.but HSZ.out.2 HR1P.out.2
      have h66:=hz6.out
      have h67:=HW67.out
      have h69:=HW69.out
      have hyw:=hI.but.size
      have hsz:=HSZ.out
      refine⟨_,_,_,by rw[←HNUM.out],?_,hW w' fun b hc=>hw' b (by omega) (.inr (by rw[←HBB.out];omega)),hT w' fun b hc=>hw' b (by omega) (.inr (by rw[←HBB.out];omega)),?_⟩
      ·
       rw[←HNUM.out];exact HWTS.out.1
      ·
       exact hI.at (by rw[←HN3.out];omega) fun b hb hc=>hw' b hb (.inr (by rw[←HBB.out];have:=HYB.out.size;omega))
     obtain⟨a9,c9,w9,hr9,-,-,⟨e5,z3,l9,-⟩,hO9⟩:=HJ.out.step HB5.out (by decide) (Nat.zero_le _) HLEN.out 24 _ 80 Tryz.underlying24 zfg rfl #[.int .i64 num,.slice a5 n1 q5,.slice a6 n2 q6,.slice sa k sc] rfl (by intro u hu;simp at hu;rcases hu with rfl|rfl|rfl|rfl <;> rfl) v hVv (by omega) (by decide) 0 rfl
     have x0:=hJ.cell 0 _ rfl
     have xl:=hJ.lt
     have HR9:=hid hr9
     have HO9:Hid (zd2 (zeE d) 32 4 0 27 O [] [.slice a3 un c3] W1 (w9.setCell ⟨O,0,none⟩ (.slice a9 (i+1) c9)) (.slice a9 (i+1) c9) ((M.vals x).take (i+1))):=by rw[Hid,HTK.out];exact hO9
     clear hI hJ hVv hO9 hr9 hVB hB67 d3 dl hif
     go_wp2_with (at_builtin;refine zaf rfl _ _ _ rfl _ _ rfl rfl HR9.out ?_)
     go_roundw
     case rel=>exact⟨i+1,_,_,by go_num,hlt,HO9.out⟩
     case measure=>simp[intOf];omega
  ·
   obtain rfl:i=vn:=by omega
   have h1:=HJ.out
   rw[HVN.out,List.take_length,←HVN.out] at h1
   have o0:=h1.cell 0 _ rfl
   have o1:=h1.cell 1 _ rfl
   have ol:=h1.lt
   have hR:Blk wr (X+1) [(.slice none 0 0),(.slice none 0 0)] 27:=(h1.below.block (X+1) (by have:=HOX.out;omega)).trans HR1.out
   have r0:=hR.cell 0 _ rfl
   have r1:=hR.cell 1 _ rfl
   have rl:=hR.lt
   have f0:=hR.free 0
   have s1:=hR.set 0 (.slice oa i oc)
   have r2:=s1.cell 1 _ rfl
   have f2:=s1.free 1
   have s2:=s1.set 1 (.slice a3 un c3)
   have r3:=s2.cell 0 _ rfl
   have r4:=s2.cell 1 _ rfl
   have HE:=hid (HFIN.out wr (.slice oa i oc) h1)
   clear hR s1 s2 h1
   go_wp2_with fail
   refine bodyPost_ret (v:=.agg #[.slice oa i oc,.slice a3 un c3]) ?_ rfl HE.out
   simp[results,Tryz.results27,go_sem,r3,r4]
theorem zdt {w0:World}:∀ d,zkQ w0 d
 | 0=>fun _ _ x _ _ _=>x.elim
 | d+1=>zhK d (zdt d)
end
end Go.Proofs.YtdpnmdkbdibkpaaGreatDoor
