/- darningref15.Put: a value put in its place (putR), where both lie outside a window of blocks. Meanings of at most 2^38 values. -/
import Derived.Test.YtdpnmdkbdibkpaaGreatDoorZ13
import Derived.Test.YtdpnmdkbdibkpaaGreatDoorZ14
import Derived.Test.YtdpnmdkbdibkpaaGreatDoorZ17
import Derived.Test.YtdpnmdkbdibkpaaGreatDoorZ23
import Derived.Test.YtdpnmdkbdibkpaaGreatDoorZ36
import Derived.Test.YtdpnmdkbdibkpaaGreatDoorZ39
import Derived.Deep.RegionLaw
import Derived.Deep.RegionHeld3
import Derived.Deep.CutBlock
import Derived.BigQuiet
namespace Go.Proofs.YtdpnmdkbdibkpaaGreatDoor
set_option maxRecDepth 100000
set_option maxHeartbeats 16000000
section
open Go.RowKit Go.Shelf
theorem zla {α:Type}{v x:Val α}{l:List (Val α)}{i:Nat}{done:Bool}(h:l[i]?=some x) :
  zb5 v done (l.drop i)=(if done=false∧v.num≤x.num then [v] else [])++((if x.num=v.num then [] else [x])++zb5 v (done||decide (v.num≤x.num)) (l.drop (i+1))):=by
 obtain⟨h1,h2⟩:=List.getElem?_eq_some_iff.1 h
 rw[←h2,List.drop_eq_getElem_cons h1]
 rfl
def zpK (d n0 B:Nat)(w:World)(_:World)(r:List Value)(u:Val (M d)):Prop:=zap n0 B w fun W=>zat (zac d) W (.agg r.toArray) u
theorem zhw {d n0 B O:Nat}{ul:Value}{w W2 W w1:World}{oa:Option Addr}{on oc:Nat}{o:List (Val (M d))}(hO:zd2 (zpK d n0 B w) 42 4 0 38 O [] [ul] W2 W (.slice oa on oc) o)(hol:o.length=on)(hn:on≤1099511627776)(hb:Below W.heap.size W w1)
  {num:Int} {a1 a2 a3:Option Addr} {n1 n2 n3 q1 q2 q3:Nat} {u:Val (M d)} (hu:zap n0 B w fun W=>zat (zac d) W (.agg #[.int .i64 num,.slice a1 n1 q1,.slice a2 n2 q2,.slice a3 n3 q3]) u) :
  ∃ a' c' w5,(Builtin.append_ #[36,36] 36 #[.slice oa on oc,.slice (some ⟨w1.heap.size,0,none⟩) 1 1]).run Tryz.prog (w1.alloc (.cells #[.int .i64 num,.slice a1 n1 q1,.slice a2 n2 q2,.slice a3 n3 q3] 42))= .ok (.slice a' (on+1) c') w5 ∧
   (w5.cell? ⟨O,0,none⟩=some (.slice oa on oc)∧w5.frozen? ⟨O,0,none⟩=false∧O<w5.heap.size) ∧
   zd2 (zpK d n0 B w) 42 4 0 38 O [] [ul] W2 (w5.setCell ⟨O,0,none⟩ (.slice a' (on+1) c')) (.slice a' (on+1) c') (o++[u])∧(o++[u]).length=on+1:=by
 obtain⟨a',c',w5,h1,-,-,⟨h4,h6,h7,-⟩,h5⟩:=hO.step hb (by decide) (Nat.zero_le _) hol 36 _ 80 Tryz.underlying36 zjJ rfl #[.int .i64 num,.slice a1 n1 q1,.slice a2 n2 q2,.slice a3 n3 q3] rfl (by intro u hu;simp at hu;rcases hu with rfl|rfl|rfl|rfl <;> rfl) u (fun _ _=>hu) hn (by decide) 0 rfl
 exact⟨a',c',w5,h1,⟨h4,h6,h7⟩,h5,by rw[List.length_append,hol];rfl⟩
theorem zhx {n0 B:Nat}{w:World}{vx vv:Value}{d:Nat}{x:M (d+1)}{v:Val (M d)}(hBw:B≤w.heap.size)(hx:zap n0 B w fun W=>zac (d+1) W vx x)(hv:zap n0 B w fun W=>zat (zac d) W vv v)(hlen:(M.vals x).length≤274877906944) :
  Calls Tryz.prog 39 #[vx,vv] w fun e w'=>∃ v',e= .returned v'∧Below w.heap.size w w'∧zap n0 B w' fun W=>zac (d+1) W v' (⟨zoZ v (M.vals x),M.unk x⟩:zec (M d)):=by
 have hx':=hx.here
 obtain⟨xv,xu,rfl,hV,hU⟩:=hx'
 obtain⟨-,va,vc,rfl,-,-⟩:=hV.open
 obtain⟨-,ua,uc,rfl,-,-⟩:=hU.open
 have hv':=hv.here
 obtain⟨wv,tv,sv,rfl,hnb,hWo,hTe,hSu⟩:=hv'
 obtain⟨h1,a1,q1,rfl,-,-⟩:=hWo.open
 obtain⟨h2,a2,q2,rfl,-,-⟩:=hTe.open
 obtain⟨h3,a3,q3,rfl,-,-⟩:=hSu.open
 obtain⟨num,HNUM⟩:∃ n,Hid (n=v.num):=⟨_,rfl⟩
 obtain⟨n1,HN1⟩:∃ n,Hid (n=v.words.length):=⟨_,rfl⟩
 obtain⟨n2,HN2⟩:∃ n,Hid (n=v.texts.length):=⟨_,rfl⟩
 obtain⟨n3,HN3⟩:∃ n,Hid (n=v.subs.length):=⟨_,rfl⟩
 obtain⟨un,HUN⟩:∃ n,Hid (n=(M.unk x).length):=⟨_,rfl⟩
 obtain⟨vn,HVN⟩:∃ n,Hid (n=(M.vals x).length):=⟨_,rfl⟩
 have hMANY:zcD v=n1+n2+n3:=by rw[HN1.out,HN2.out,HN3.out];rfl
 rw[←HNUM.out] at hv hnb ⊢
 rw[←HN1.out] at hv h1 ⊢
 rw[←HN2.out] at hv h2 ⊢
 rw[←HN3.out] at hv h3 ⊢
 rw[←HUN.out] at hU hx ⊢
 rw[←HVN.out] at hlen hx ⊢
 have HVAL:=hid hv
 have HVA:Hid (∀ k m,(M.vals x)[k]?=some m→_):=fun k m hk=>zou hx hk
 have HXX:=hid hx
 have HBW0:=hid hBw
 have HUU:=hid hU
 obtain⟨X,HX⟩:∃ X,Hid (X=w.heap.size):=⟨_,rfl⟩
 obtain⟨done0,HD0⟩:∃ b,Hid (b=decide (zcD v=0)):=⟨_,rfl⟩
 have hd0:(((n1+n2+n3:Nat):Int) == 0)=done0:=by
  rw[HD0.out,hMANY,Bool.eq_iff_iff,beq_iff_eq,decide_eq_true_eq]
  omega
 obtain⟨W1,HW1⟩:∃ W,Hid (W=((w.alloc (.cells #[.slice va vn vc,.slice ua un uc] 38)).alloc (.cells #[.int .i64 num,.slice a1 n1 q1,.slice a2 n2 q2,.slice a3 n3 q3] 42)).alloc (.cells #[.slice none 0 0,.slice none 0 0] 38)):=⟨_,rfl⟩
 obtain⟨hx1,hv1,hr1,hz1,hb1⟩:=zn5 w [.slice va vn vc,.slice ua un uc] [.int .i64 num,.slice a1 n1 q1,.slice a2 n2 q2,.slice a3 n3 q3] [.slice none 0 0,.slice none 0 0] 38 42 38 W1 HW1.out
 rw[←HX.out] at hx1 hv1 hr1 hz1
 obtain⟨W2,HW2⟩:∃ W,Hid (W=W1.alloc (.cells #[.slice none 0 0,.slice ua un uc] 38)):=⟨_,rfl⟩
 have hb12:Below W1.heap.size W1 W2:=by rw[HW2.out];exact (Below.refl _ _).alloc (Nat.le_refl _) _
 have ho2:Blk W2 W1.heap.size [.slice none 0 0,.slice ua un uc] 38:=by rw[HW2.out];exact Blk.new W1 [.slice none 0 0,.slice ua un uc] _
 obtain⟨O,HO⟩:∃ O,Hid (O=W1.heap.size):=⟨_,rfl⟩
 rw[←HO.out] at ho2
 have HOX:Hid (O=X+1+1+1):=by rw[Hid,HO.out,hz1]
 have HB2:Hid (Below X w W2):=by rw[HX.out];exact hb1.trans (hb12.mono hb1.size)
 have HK2:=hid (And.intro (hx1.below hb12) (And.intro (hv1.below hb12) (hr1.below hb12)))
 have HO2:Hid (zd2 (zpK d n0 B w) 42 4 0 38 O [] [.slice ua un uc] W2 W2 (.slice none 0 0) []):=zd2.start ho2
 obtain⟨Q,HQ⟩:∃ Q:Ending→World→Prop,Hid (Q=fun e w'=>∃ v',e= .returned v'∧Below w.heap.size w w'∧zap n0 B w' fun W=>zac (d+1) W v' (⟨zoZ v (M.vals x),M.unk x⟩:zec (M d))):=⟨_,rfl⟩
 rw[←HQ.out]
 have HFIN:Hid (∀ (W:World) (v':Value) (o:List (Val (M d))),o=zb5 v done0 (M.vals x)→o.length≤1099511627776→zd2 (zpK d n0 B w) 42 4 0 38 O [] [.slice ua un uc] W2 W v' o→Q (.returned (.agg #[v',.slice ua un uc])) ((W.setCell ⟨X+1+1,0,none⟩ v').setCell ⟨X+1+1,1,none⟩ (.slice ua un uc))):=by
  intro W v' o ho hol hO
  have hBO:Below X w W:=HB2.out.trans (hO.below.mono (by have:=HOX.out;omega))
  have hB:Below X w ((W.setCell ⟨X+1+1,0,none⟩ v').setCell ⟨X+1+1,1,none⟩ (.slice ua un uc)):=(hBO.setCell (by show X≤X+1+1;omega) _).setCell (by show X≤X+1+1;omega) _
  rw[HQ.out]
  refine⟨_,rfl,by rw[←HX.out];exact hB,fun W2' hW2=>?_⟩
  have hag:∀ b,b<w.heap.size→(b<n0∨B≤b)→W2'.heap[b]?=w.heap[b]?:=fun b hlt hc =>
   (hW2 b (Nat.lt_of_lt_of_le hlt hB.size) hc).trans (hB.block b (by rw[HX.out];exact hlt))
  refine⟨v',.slice ua un uc,rfl,?_,?_⟩
  ·
   have h:=hO.at (by omega) (w':=W2') (fun b hlt hc=>by
    have hne:b≠X+1+1:=by have:=HOX.out;omega
    have hB0:=HBW0.out
    have h0:=HOX.out
    have h1:=HX.out
    rw[hW2 b (by simpa using hlt) (.inr (by omega)),Below.heap_setCell _ _ _ b hne,Below.heap_setCell _ _ _ b hne])
   rw[ho,HD0.out] at h
   obtain⟨rows,r1,r2,r3,r4⟩:=h
   exact⟨rows,r1,r2,r3,fun k r u hr hu=>r4 k r u hr hu W2' hag⟩
  ·
   obtain⟨_,_,e,-,hU2⟩:=HXX.out W2' hag
   cases e
   exact hU2
 have HMY:=hid (zdu num a1 a2 a3 n1 n2 n3 q1 q2 q3 h1 h2 h3)
 have HMZ:Hid ((((n1+n2+n3:Nat):Int) == 0)=done0):=hd0
 have p0:=hv1.cell 0 _ rfl
 have x0:=hx1.cell 0 _ rfl
 have x1:=hx1.cell 1 _ rfl
 have xl:=hx1.lt
 clear hV hU hx hBw hv hnb hWo hTe hSu h1 h2 h3 hMANY hd0 hx1 hv1 hr1 hz1 hb1 hb12 ho2 p0 HQ
 go_enter Tryz.func39,Tryz.ntmps39
 go_upto_region 1 with fail
 rw[←HW1.out,←HX.out]
 go_upto_region 2 with fail
 rw[←HW2.out,←HO.out]
 clear x0 x1 xl
 have y0:=HK2.out.2.1.cell 0 _ rfl
 have y1:=HK2.out.2.1.cell 1 _ rfl
 have y2:=HK2.out.2.1.cell 2 _ rfl
 have y3:=HK2.out.2.1.cell 3 _ rfl
 have yl:=HK2.out.2.1.lt
 go_wp2_with fail
 refine (HMY.out W2).mono ?_
 rintro e w3 ⟨rfl,hb3⟩
 obtain⟨nn,HNN⟩:∃ n,Hid (n=n1+n2+n3):=⟨_,rfl⟩
 rw[←HNN.out] at HMZ ⊢
 have HO3:=hid (HO2.out.later hb3)
 have HK3:=hid (And.intro (HK2.out.1.below hb3) (And.intro (HK2.out.2.1.below hb3) (HK2.out.2.2.below hb3)))
 clear hb3 y0 y1 y2 y3 yl
 have hmz:=HMZ.out
 go_wp2_with fail
 have HN0:Hid (X≤O):=by have:=HOX.out;show _≤_;omega
 have HBW:Hid (∀ wr,Below O W2 wr→Below X w wr):=fun wr h=>HB2.out.trans (h.mono HN0.out)
 have HXB:Hid (∀ W,Below O W2 W→Blk W X [.slice va vn vc,.slice ua un uc] 38∧Blk W (X+1) [.int .i64 num,.slice a1 n1 q1,.slice a2 n2 q2,.slice a3 n3 q3] 42∧Blk W (X+1+1) [.slice none 0 0,.slice none 0 0] 38):=fun W hW =>
  ⟨HK2.out.1.of hW (by have:=HOX.out;omega),HK2.out.2.1.of hW (by have:=HOX.out;omega),HK2.out.2.2.of hW (by have:=HOX.out;omega)⟩
 go_loopw [6,7] (fun v6 v7 wr=>∃ (i:Nat) (dn:Bool) (o:List (Val (M d))) (oa:Option Addr) (oc on:Nat),v6= .bool dn∧v7= .int .i64 (i:Int)∧i≤vn∧on≤2*i∧Hid (zd2 (zpK d n0 B w) 42 4 0 38 O [] [.slice ua un uc] W2 wr (.slice oa on oc) o∧o.length=on∧o++zb5 v dn ((M.vals x).drop i)=zb5 v done0 (M.vals x))) (fun _ v7 _=>vn - (intOf v7).toNat)
 case atStart=>exact⟨0,done0,[],none,0,0,rfl,rfl,by omega,by omega,HO3.out,rfl,rfl⟩
 case round =>
  obtain⟨i,dn,o,oa,oc,on,rfl,rfl,hi,hon,HJ⟩:=hrel
  have HBR:=hid (HBW.out wr HJ.out.1.below)
  have h0:=HXB.out wr HJ.out.1.below
  have x0:=h0.1.cell 0 _ rfl
  have xl:=h0.1.lt
  by_cases hlt:i<vn
  ·
   obtain⟨y,hy⟩:∃ y,(M.vals x)[i]?=some y:=⟨_,List.getElem?_eq_getElem (by rw[←HVN.out];exact hlt)⟩
   obtain⟨b,o',v1,v2,v3,ha,-,g0,g1,g2,g3,hM⟩:=HVA.out i y hy
   obtain⟨yn,b1,m1,r1,b2,m2,r2,b3,m3,r3,hform⟩:=hM.here.form
   obtain⟨rfl,rfl,rfl⟩:v1= .slice b1 m1 r1∧v2= .slice b2 m2 r2∧v3= .slice b3 m3 r3:=by cases hform;exact⟨rfl,rfl,rfl⟩
   have hyn:y.num=yn:=by cases hform;rfl
   rw[hyn] at g0 hM
   clear hform
   have HMV:=hid hM
   have hst:=zla (v:=v) (done:=dn) hy
   rw[hyn,←HNUM.out] at hst
   have HST:=hid hst
   have hixv:=zad Tryz.underlying36 zfL ha i hlt (cap:=vc)
   have HG:Hid (∀ W,Below O W2 W→W.cell? ⟨b,o'+i*4,none⟩=some (.int .i64 yn)∧W.cell? ⟨b,o'+i*4+1,none⟩=some (.slice b1 m1 r1)∧W.cell? ⟨b,o'+i*4+2,none⟩=some (.slice b2 m2 r2)∧W.cell? ⟨b,o'+i*4+3,none⟩=some (.slice b3 m3 r3)):=fun W hW=>by
    have hk:=zaa (show Below w.heap.size w W by rw[←HX.out];exact HBW.out W hW)
    exact⟨hk _ _ g0,hk _ _ g1,hk _ _ g2,hk _ _ g3⟩
   clear hst hM ha g0 g1 g2 g3
   have h6:=HG.out wr HJ.out.1.below
   obtain⟨g0,g1,g2,g3⟩:=h6
   have gl:=World.block_lt_of_cell? wr _ g0
   have y0:=h0.2.1.cell 0 _ rfl
   have yl:=h0.2.1.lt
   go_upto_region 6 with fail
   cases dn with
   | true =>
    go_quiet (fail)
    obtain⟨Wc,HWc⟩:∃ W,Hid (W=wr.drewN nq):=⟨_,rfl⟩
    have hbc:Below wr.heap.size wr Wc:=by rw[HWc.out];exact zab (Below.refl _ _) nq
    obtain⟨oK,oaK,ocK,onK,HC,honK⟩:∃ (oK:List (Val (M d))) (oaK:Option Addr) (ocK onK:Nat),Hid (zd2 (zpK d n0 B w) 42 4 0 38 O [] [.slice ua un uc] W2 Wc (.slice oaK onK ocK) oK∧oK.length=onK∧oK++((if yn=num then [] else [y])++zb5 v true ((M.vals x).drop (i+1)))=zb5 v done0 (M.vals x))∧onK≤2*i+1:=by
     refine⟨o,oa,oc,on,⟨HJ.out.1.later hbc,HJ.out.2.1,?_⟩,by omega⟩
     have h1:=HJ.out.2.2
     rw[HST.out,if_neg (by simp),List.nil_append,Bool.true_or] at h1
     exact h1
    rw[←HWc.out]
    clear hbc HJ HBR h0 x0 xl g0 g1 g2 g3 gl y0 yl
    obtain⟨g0,g1,g2,g3⟩:=HG.out Wc HC.out.1.below
    have hxb:=HXB.out Wc HC.out.1.below
    have x0:=hxb.1.cell 0 _ rfl
    have xl:=hxb.1.lt
    have y0:=hxb.2.1.cell 0 _ rfl
    have yl:=hxb.2.1.lt
    have gl:=World.block_lt_of_cell? Wc _ g0
    go_upto_region 9 with fail
    go_quiet (fail)
    obtain⟨W9,HW9⟩:∃ W,Hid (W=Wc.drewN nq):=⟨_,rfl⟩
    have HB9:Hid (Below Wc.heap.size Wc W9):=by rw[HW9.out];exact zab (Below.refl _ _) nq
    rw[←HW9.out]
    have HC9:=hid (HC.out.1.later HB9.out)
    clear g0 g1 g2 g3 hxb x0 xl y0 yl gl
    by_cases hne:yn=num
    ·
     have heq:=HC.out.2.2
     rw[if_pos hne,List.nil_append] at heq
     have HEQ:=hid heq
     clear heq
     go_wp2_with fail
     go_roundw
     case rel=>exact⟨i+1,_,oK,oaK,ocK,onK,rfl,by go_num,hlt,by omega,HC9.out,HC.out.2.1,HEQ.out⟩
     case measure=>simp[intOf];omega
    ·
     have heq:=HC.out.2.2
     rw[if_neg hne,←List.append_assoc] at heq
     have HEQ:=hid heq
     obtain⟨g0,g1,g2,g3⟩:=HG.out W9 HC9.out.below
     have hxb:=HXB.out W9 HC9.out.below
     have x0:=hxb.1.cell 0 _ rfl
     have xl:=hxb.1.lt
     have o0:=HC9.out.cell 0 _ rfl
     have ol:=HC9.out.lt
     have gl:=World.block_lt_of_cell? W9 _ g0
     obtain⟨a9,c9,w9,hr9,⟨e5,z3,l9⟩,hO9,hl9⟩:=zhw HC9.out HC.out.2.1 (by omega) ((Below.refl W9.heap.size W9).drew) HMV.out
     have HR9:=hid hr9
     have HO9:=hid (And.intro hO9 hl9)
     clear heq hxb hr9 hO9 hl9
     have q0:W9.drew.cell? ⟨O,0,none⟩=some (.slice oaK onK ocK)∧W9.drew.cell? ⟨X,0,none⟩=some (.slice va vn vc)∧W9.drew.cell? ⟨b,o'+i*4,none⟩=some (.int .i64 yn)∧W9.drew.cell? ⟨b,o'+i*4+1,none⟩=some (.slice b1 m1 r1)∧W9.drew.cell? ⟨b,o'+i*4+2,none⟩=some (.slice b2 m2 r2)∧W9.drew.cell? ⟨b,o'+i*4+3,none⟩=some (.slice b3 m3 r3):=⟨o0,x0,g0,g1,g2,g3⟩
     go_upto_region 10 with fail
     go_region_law (refine zaQ rfl (.tmp 50) (.tmp 56) _ rfl _ _ rfl rfl HR9.out ?_)
     all_goals
      go_wp2_with fail
      go_roundw
      case rel=>exact⟨i+1,_,_,a9,c9,_,rfl,by go_num,hlt,by omega,HO9.out.1,HO9.out.2,HEQ.out⟩
      case measure=>simp[intOf];omega
   | false =>
    by_cases hle:num≤yn
    ·
     go_quiet (fail)
     obtain⟨W7,HW7⟩:∃ W,Hid (W=wr.drewN nq):=⟨_,rfl⟩
     have hb7:Below wr.heap.size wr W7:=by rw[HW7.out];exact zab (Below.refl _ _) nq
     have HC7:=hid (HJ.out.1.later hb7)
     obtain⟨a8,c8,w8,hr8,⟨e5,z3,l8⟩,hO8,hl8⟩:=zhw HC7.out HJ.out.2.1 (by omega) (Below.refl _ _) HVAL.out
     have HR8:=hid hr8
     have hxb:=HXB.out W7 HC7.out.below
     have y0:=hxb.2.1.cell 0 _ rfl
     have y1:=hxb.2.1.cell 1 _ rfl
     have y2:=hxb.2.1.cell 2 _ rfl
     have y3:=hxb.2.1.cell 3 _ rfl
     have yl:=hxb.2.1.lt
     have o0:=HC7.out.cell 0 _ rfl
     have ol:=HC7.out.lt
     obtain⟨Wc,HWc⟩:∃ W,Hid (W=w8.setCell ⟨O,0,none⟩ (.slice a8 (on+1) c8)):=⟨_,rfl⟩
     rw[←HWc.out] at hO8
     obtain⟨oK,oaK,ocK,onK,HC,honK,heK⟩:∃ (oK:List (Val (M d))) (oaK:Option Addr) (ocK onK:Nat),Hid (zd2 (zpK d n0 B w) 42 4 0 38 O [] [.slice ua un uc] W2 Wc (.slice oaK onK ocK) oK∧oK.length=onK∧oK++((if yn=num then [] else [y])++zb5 v true ((M.vals x).drop (i+1)))=zb5 v done0 (M.vals x))∧onK≤2*i+1∧Hid (oaK=a8∧ocK=c8∧onK=on+1):=by
      refine⟨o++[v],a8,c8,on+1,⟨hO8,hl8,?_⟩,by omega,rfl,rfl,rfl⟩
      have h1:=HJ.out.2.2
      rw[HST.out,if_pos ⟨rfl,hle⟩,show (false||decide (num≤yn))=true by simp[hle],←List.append_assoc] at h1
      exact h1
     rw[←HW7.out]
     clear hb7 HJ HBR h0 x0 xl g0 g1 g2 g3 gl hr8 hO8 hl8 hxb HC7
     go_upto_region 9 with (at_builtin;refine zaf rfl _ _ _ rfl _ _ rfl rfl HR8.out ?_)
     rw[←HWc.out]
     clear y0 y1 y2 y3 yl o0 ol e5 z3 l8 HR8 HWc
     obtain⟨g0,g1,g2,g3⟩:=HG.out Wc HC.out.1.below
     have hxb:=HXB.out Wc HC.out.1.below
     have x0:=hxb.1.cell 0 _ rfl
     have xl:=hxb.1.lt
     have y0:=hxb.2.1.cell 0 _ rfl
     have yl:=hxb.2.1.lt
     have gl:=World.block_lt_of_cell? Wc _ g0
     go_quiet (fail)
     obtain⟨W9,HW9⟩:∃ W,Hid (W=Wc.drewN nq):=⟨_,rfl⟩
     have HB9:Hid (Below Wc.heap.size Wc W9):=by rw[HW9.out];exact zab (Below.refl _ _) nq
     rw[←HW9.out]
     have HC9:=hid (HC.out.1.later HB9.out)
     clear g0 g1 g2 g3 hxb x0 xl y0 yl gl
     by_cases hne:yn=num
     ·
      have heq:=HC.out.2.2
      rw[if_pos hne,List.nil_append] at heq
      have HEQ:=hid heq
      clear heq
      go_wp2_with fail
      go_roundw
      case rel=>exact⟨i+1,_,oK,oaK,ocK,onK,rfl,by go_num,hlt,by omega,HC9.out,HC.out.2.1,HEQ.out⟩
      case measure=>simp[intOf];omega
     ·
      have heq:=HC.out.2.2
      rw[if_neg hne,←List.append_assoc] at heq
      have HEQ:=hid heq
      obtain⟨g0,g1,g2,g3⟩:=HG.out W9 HC9.out.below
      have hxb:=HXB.out W9 HC9.out.below
      have x0:=hxb.1.cell 0 _ rfl
      have xl:=hxb.1.lt
      have o0:=HC9.out.cell 0 _ rfl
      have ol:=HC9.out.lt
      have gl:=World.block_lt_of_cell? W9 _ g0
      obtain⟨a9,c9,w9,hr9,⟨e5,z3,l9⟩,hO9,hl9⟩:=zhw HC9.out HC.out.2.1 (by omega) ((Below.refl W9.heap.size W9).drew) HMV.out
      have HR9:=hid hr9
      have HO9:=hid (And.intro hO9 hl9)
      clear heq hxb hr9 hO9 hl9
      have q0:W9.drew.cell? ⟨O,0,none⟩=some (.slice oaK onK ocK)∧W9.drew.cell? ⟨X,0,none⟩=some (.slice va vn vc)∧W9.drew.cell? ⟨b,o'+i*4,none⟩=some (.int .i64 yn)∧W9.drew.cell? ⟨b,o'+i*4+1,none⟩=some (.slice b1 m1 r1)∧W9.drew.cell? ⟨b,o'+i*4+2,none⟩=some (.slice b2 m2 r2)∧W9.drew.cell? ⟨b,o'+i*4+3,none⟩=some (.slice b3 m3 r3):=⟨o0,x0,g0,g1,g2,g3⟩
      go_upto_region 10 with fail
      go_region_law (refine zaQ rfl (.tmp 50) (.tmp 56) _ rfl _ _ rfl rfl HR9.out ?_)
      all_goals
       go_wp2_with fail
       go_roundw
       case rel=>exact⟨i+1,_,_,a9,c9,_,rfl,by go_num,hlt,by omega,HO9.out.1,HO9.out.2,HEQ.out⟩
       case measure=>simp[intOf];omega
    ·
     go_quiet (fail)
     obtain⟨Wc,HWc⟩:∃ W,Hid (W=wr.drewN nq):=⟨_,rfl⟩
     have hbc:Below wr.heap.size wr Wc:=by rw[HWc.out];exact zab (Below.refl _ _) nq
     obtain⟨oK,oaK,ocK,onK,HC,honK⟩:∃ (oK:List (Val (M d))) (oaK:Option Addr) (ocK onK:Nat),Hid (zd2 (zpK d n0 B w) 42 4 0 38 O [] [.slice ua un uc] W2 Wc (.slice oaK onK ocK) oK∧oK.length=onK∧oK++((if yn=num then [] else [y])++zb5 v false ((M.vals x).drop (i+1)))=zb5 v done0 (M.vals x))∧onK≤2*i+1:=by
      refine⟨o,oa,oc,on,⟨HJ.out.1.later hbc,HJ.out.2.1,?_⟩,by omega⟩
      have h1:=HJ.out.2.2
      rw[HST.out,if_neg (by simp[hle]),List.nil_append,show (false||decide (num≤yn))=false by simp[hle]] at h1
      exact h1
     rw[←HWc.out]
     clear hbc HJ HBR h0 x0 xl g0 g1 g2 g3 gl y0 yl
     obtain⟨g0,g1,g2,g3⟩:=HG.out Wc HC.out.1.below
     have hxb:=HXB.out Wc HC.out.1.below
     have x0:=hxb.1.cell 0 _ rfl
     have xl:=hxb.1.lt
     have y0:=hxb.2.1.cell 0 _ rfl
     have yl:=hxb.2.1.lt
     have gl:=World.block_lt_of_cell? Wc _ g0
     go_upto_region 9 with fail
     go_quiet (fail)
     obtain⟨W9,HW9⟩:∃ W,Hid (W=Wc.drewN nq):=⟨_,rfl⟩
     have HB9:Hid (Below Wc.heap.size Wc W9):=by rw[HW9.out];exact zab (Below.refl _ _) nq
     rw[←HW9.out]
     have HC9:=hid (HC.out.1.later HB9.out)
     clear g0 g1 g2 g3 hxb x0 xl y0 yl gl
     by_cases hne:yn=num
     ·
      exact absurd hne (by omega)
     ·
      have heq:=HC.out.2.2
      rw[if_neg hne,←List.append_assoc] at heq
      have HEQ:=hid heq
      obtain⟨g0,g1,g2,g3⟩:=HG.out W9 HC9.out.below
      have hxb:=HXB.out W9 HC9.out.below
      have x0:=hxb.1.cell 0 _ rfl
      have xl:=hxb.1.lt
      have o0:=HC9.out.cell 0 _ rfl
      have ol:=HC9.out.lt
      have gl:=World.block_lt_of_cell? W9 _ g0
      obtain⟨a9,c9,w9,hr9,⟨e5,z3,l9⟩,hO9,hl9⟩:=zhw HC9.out HC.out.2.1 (by omega) ((Below.refl W9.heap.size W9).drew) HMV.out
      have HR9:=hid hr9
      have HO9:=hid (And.intro hO9 hl9)
      clear heq hxb hr9 hO9 hl9
      have q0:W9.drew.cell? ⟨O,0,none⟩=some (.slice oaK onK ocK)∧W9.drew.cell? ⟨X,0,none⟩=some (.slice va vn vc)∧W9.drew.cell? ⟨b,o'+i*4,none⟩=some (.int .i64 yn)∧W9.drew.cell? ⟨b,o'+i*4+1,none⟩=some (.slice b1 m1 r1)∧W9.drew.cell? ⟨b,o'+i*4+2,none⟩=some (.slice b2 m2 r2)∧W9.drew.cell? ⟨b,o'+i*4+3,none⟩=some (.slice b3 m3 r3):=⟨o0,x0,g0,g1,g2,g3⟩
      go_upto_region 10 with fail
      go_region_law (refine zaQ rfl (.tmp 50) (.tmp 56) _ rfl _ _ rfl rfl HR9.out ?_)
      all_goals
       go_wp2_with fail
       go_roundw
       case rel=>exact⟨i+1,_,_,a9,c9,_,rfl,by go_num,hlt,by omega,HO9.out.1,HO9.out.2,HEQ.out⟩
       case measure=>simp[intOf];omega
  ·
   obtain rfl:i=vn:=by omega
   have hdr:(M.vals x).drop i=[]:=by rw[HVN.out];exact List.drop_length
   have heq:=HJ.out.2.2
   rw[hdr] at heq
   have hxb:=HXB.out wr HJ.out.1.below
   cases dn with
   | true =>
    have HEQ:Hid (o=zb5 v done0 (M.vals x)):=by
     rw[show zb5 v true ([]:List (Val (M d)))=[] from rfl,List.append_nil] at heq
     exact heq
    have hr:=hxb.2.2
    have r0:=hr.cell 0 _ rfl
    have r1:=hr.cell 1 _ rfl
    have rl:=hr.lt
    have f0:=hr.free 0
    have s1:=hr.set 0 (.slice oa on oc)
    have r2:=s1.cell 1 _ rfl
    have f2:=s1.free 1
    have s2:=s1.set 1 (.slice ua un uc)
    have r3:=s2.cell 0 _ rfl
    have r4:=s2.cell 1 _ rfl
    have o0:=HJ.out.1.cell 0 _ rfl
    have o1:=HJ.out.1.cell 1 _ rfl
    have ol:=HJ.out.1.lt
    have HE:=hid (HFIN.out wr (.slice oa on oc) o HEQ.out (by rw[HJ.out.2.1];omega) HJ.out.1)
    clear hdr heq hxb hr s1 s2 h0
    go_wp2_with fail
    refine bodyPost_ret (v:=.agg #[.slice oa on oc,.slice ua un uc]) ?_ rfl HE.out
    simp[results,Tryz.results39,go_sem,r3,r4]
   | false =>
    have HEQ:Hid (o++[v]=zb5 v done0 (M.vals x)):=heq
    obtain⟨a8,c8,w8,hr8,⟨e5,z3,l8⟩,hO8,hl8⟩:=zhw HJ.out.1 HJ.out.2.1 (by omega) (Below.refl _ _) HVAL.out
    have HR8:=hid hr8
    have y0:=hxb.2.1.cell 0 _ rfl
    have y1:=hxb.2.1.cell 1 _ rfl
    have y2:=hxb.2.1.cell 2 _ rfl
    have y3:=hxb.2.1.cell 3 _ rfl
    have yl:=hxb.2.1.lt
    have o0:=HJ.out.1.cell 0 _ rfl
    have ol:=HJ.out.1.lt
    obtain⟨Wc,HWc⟩:∃ W,Hid (W=w8.setCell ⟨O,0,none⟩ (.slice a8 (on+1) c8)):=⟨_,rfl⟩
    rw[←HWc.out] at hO8
    have hr:=(HXB.out Wc hO8.below).2.2
    have HE:=hid (HFIN.out Wc (.slice a8 (on+1) c8) (o++[v]) HEQ.out (by rw[hl8];omega) hO8)
    have HOC:=hid hO8
    have HRB:=hid hr
    clear hdr heq hxb h0 hr8 hO8 hl8 hr
    go_upto_region 13 with (at_builtin;refine zaf rfl _ _ _ rfl _ _ rfl rfl HR8.out ?_)
    rw[←HWc.out]
    clear y0 y1 y2 y3 yl o0 ol e5 z3 l8 HR8 HWc x0 xl
    have hr:=HRB.out
    have r0:=hr.cell 0 _ rfl
    have r1:=hr.cell 1 _ rfl
    have rl:=hr.lt
    have f0:=hr.free 0
    have s1:=hr.set 0 (.slice a8 (on+1) c8)
    have r2:=s1.cell 1 _ rfl
    have f2:=s1.free 1
    have s2:=s1.set 1 (.slice ua un uc)
    have r3:=s2.cell 0 _ rfl
    have r4:=s2.cell 1 _ rfl
    have o0:=HOC.out.cell 0 _ rfl
    have o1:=HOC.out.cell 1 _ rfl
    have ol:=HOC.out.lt
    clear hr s1 s2
    go_wp2_with fail
    refine bodyPost_ret (v:=.agg #[.slice a8 (on+1) c8,.slice ua un uc]) ?_ rfl HE.out
    simp[results,Tryz.results39,go_sem,r3,r4]
end
end Go.Proofs.YtdpnmdkbdibkpaaGreatDoor
