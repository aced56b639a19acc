/- Parts of a proof: texts of the author, merged. No condition of their own. -/
import Derived.Test.YtdpnmdkbdibkpaaGreatDoorZ08
import Derived.Test.YtdpnmdkbdibkpaaGreatDoorZ11
import Derived.Test.YtdpnmdkbdibkpaaGreatDoorZ13
import Derived.Test.YtdpnmdkbdibkpaaGreatDoorZ18
import Derived.Test.YtdpnmdkbdibkpaaGreatDoorZ20
import Derived.Test.YtdpnmdkbdibkpaaGreatDoorZ21
import Derived.Test.YtdpnmdkbdibkpaaGreatDoorZ22
import Derived.Test.YtdpnmdkbdibkpaaGreatDoorZ25
namespace Go.Proofs.YtdpnmdkbdibkpaaGreatDoor
set_option maxRecDepth 100000
set_option maxHeartbeats 16000000
section
open Go.RowKit
theorem zi6 {d:Nat}{w:World}{v:Value}{l:List (Val (M d))}(h:zeG (zac d) w v l)(F:Nat)(cap:Array Value)(p:(Val (M d))→Bool)(hcf:∀ (args:Array Value) (w:World),(callFunc F args).run Tryz.prog w= .ok (.enter F args) w)
  (hcl:∀ x∈l,∀ (mv:Value) (wr:World),zat (zac d) w mv x→Below w.heap.size w wr→Calls Tryz.prog F (#[mv]++cap) wr fun e w'=>e= .returned (.bool (p x))∧Below wr.heap.size wr w') :
  Calls Tryz.prog 66 #[v,.func (.func F) #[] cap] w fun e w'=>e= .returned (.int .i64 (zah p l 0))∧Below w.heap.size w w':=by
 obtain⟨hlen,a,c,rfl,-,hat⟩:=h.open
 obtain⟨n,HN⟩:∃ n,Hid (n=l.length):=⟨_,rfl⟩
 rw[←HN.out] at hlen ⊢
 have HAT:=hid hat
 have HCL:=hid hcl
 clear hat hcl
 go_enter Tryz.func66,Tryz.ntmps66
 go_wp2
 go_loopw [8] (fun v8 wr=>∃ k:Nat,k≤n∧v8= .int .i64 k∧Hid (zah p (l.drop k) k=zah p l 0)∧Hid (Below w.heap.size w wr)) (fun v8 _=>n - (intOf v8).toNat)
 case atStart=>exact⟨0,by omega,rfl,hid rfl,Below.refl _ _⟩
 case round =>
  obtain⟨k,hk,rfl,HK,HB⟩:=hrel
  by_cases hlt:k<n
  ·
   have hat:=HAT.out
   have hxi:l[k]?=some (l[k]'(by rw[←HN.out];exact hlt)):=List.getElem?_eq_getElem _
   generalize l[k]'(by rw[←HN.out];exact hlt)=x at hxi
   obtain⟨b,o,v1,v2,v3,ha,g0,g1,g2,g3,hM⟩:=hat k x hxi
   clear hat
   have HXX:=hid hM
   clear hM
   have r0:=zaa HB.out _ _ g0
   have r1:=zaa HB.out _ _ g1
   have r2:=zaa HB.out _ _ g2
   have r3:=zaa HB.out _ _ g3
   have hbl:b<wr.heap.size:=World.block_lt_of_cell? wr _ r0
   have hix:=zad Tryz.underlying24 zdd ha k hlt (cap:=c)
   clear g0 g1 g2 g3
   have hst:=hid (zdR p l k x hxi)
   have HMEM:=hid (List.mem_of_getElem? hxi)
   clear ha hxi
   go_wp2_with fail
   have hcl:=HCL.out
   refine (hcl x HMEM.out _ _ HXX.out HB.out).mono ?_
   rintro e w5 ⟨rfl,hb5⟩
   clear hcl
   have HB5:Hid (Below w.heap.size w w5):=zai HB.out hb5 HB.out.size
   clear hb5
   cases hp:p x with
   | true =>
    have e:zah p l 0=k:=by rw[←HK.out,hst.out,if_pos hp]
    have HE:=hid e
    clear hp e
    go_wp2
    go_ret
    exact⟨by rw[HE.out];rfl,HB5.out⟩
   | false =>
    have e:zah p (l.drop (k+1)) (k+1)=zah p l 0:=by rw[←HK.out,hst.out,if_neg (by rw[hp];decide)]
    have HE:=hid e
    clear hp e
    go_wp2
    go_roundw
    case rel=>exact⟨k+1,by omega,by go_num,HE.out,HB5.out⟩
    case measure=>simp[intOf];omega
  ·
   go_wp2
   go_ret
   have e:zah p l 0= -1:=by
    rw[←HK.out,List.drop_of_length_le (by rw[←HN.out];omega)];rfl
   exact⟨by rw[e];rfl,HB.out⟩
end
section
open Go.RowKit
theorem zkj (x y:List UInt8):((⟨x.toArray⟩:ByteArray).toList == (⟨y.toArray⟩:ByteArray).toList)=decide (x=y):=by
 rw[Bool.eq_iff_iff]
 simp[ByteArray.toList_eq]
theorem formM:∀ {d:Nat} {w:World} {v:Value} {x:M d},zac d w v x→∃ a1 n1 c1 a2 n2 c2,v= .agg #[.slice a1 n1 c1,.slice a2 n2 c2]
 | 0,_,_,_,h=>h.elim
 | d+1,_,_,_,h=>by
  obtain⟨vv,uv,rfl,hV,hU⟩:=h
  obtain⟨-,va,vc,rfl,-,-⟩:=hV.open
  obtain⟨-,ua,uc,rfl,-,-⟩:=hU.open
  exact⟨_,_,_,_,_,_,rfl⟩
theorem formV {d:Nat}{w:World}{m:Int}{v1 v2 v3:Value}{x:Val (M d)}(h:zat (zac d) w (.agg #[.int .i64 m,v1,v2,v3]) x):∃ a1 n1 c1 a2 n2 c2 a3 n3 c3,v1= .slice a1 n1 c1∧v2= .slice a2 n2 c2∧v3= .slice a3 n3 c3:=by
 obtain⟨wv,tv,sv,e,-,hW,hT,hS⟩:=h
 cases e
 obtain⟨-,wa,wc,rfl,-,-⟩:=hW.open
 obtain⟨-,ta,tc,rfl,-,-⟩:=hT.open
 obtain⟨-,sa,sc,rfl,-,-⟩:=hS.open
 exact⟨_,_,_,_,_,_,_,_,_,rfl,rfl,rfl⟩
end
section
open Go.RowKit
def zfZ {α:Type}(l:List (Val α))(n:Int):Option (Val α):=l.find? fun v=>decide (v.num=n)
end
section
open Go.RowKit Go.Shelf
theorem zf0 {α:Type}(p:α→Bool):∀ (l:List α) (i:Nat),(zah p l i= -1∧l.find? p=none)∨∃ (k:Nat) (m:α),zah p l i=((i+k:Nat):Int)∧l[k]?=some m∧l.find? p=some m
 | [],i=> .inl ⟨rfl,rfl⟩
 | x::r,i=>by
  rw[zah,List.find?_cons]
  cases h:p x with
  | true=>exact .inr ⟨0,x,by simp,rfl,rfl⟩
  | false =>
   rcases zf0 p r (i+1) with ⟨h1,h2⟩|⟨k,m,h1,h2,h3⟩
   ·
    exact .inl ⟨by simpa using h1,h2⟩
   ·
    exact .inr ⟨k+1,m,by simp only[Bool.false_eq_true,if_false];rw[h1];congr 1;omega,by simpa using h2,h3⟩
theorem zmU (a b:Value)(w:World):(Instr.field 27 (.agg #[a,b]) 0).run Tryz.prog w= .ok a w:=by kernel_rfl
theorem zmV {d:Nat}{w wr:World}{q:Nat}{n:Int}(hq:wr.cell? ⟨q,0,none⟩=some (.int .i64 n)){mv:Value}{m:Val (M d)}(hm:zat (zac d) w mv m) :
  Calls Tryz.prog 67 #[mv,.pointer (some ⟨q,0,none⟩)] wr fun e w'=>e= .returned (.bool (decide (m.num=n)))∧Below wr.heap.size wr w':=by
 obtain⟨wv,tv,sv,rfl,-,hW,hT,hS⟩:=hm
 obtain⟨-,a1,c1,rfl,-,-⟩:=hW.open
 obtain⟨-,a2,c2,rfl,-,-⟩:=hT.open
 obtain⟨-,a3,c3,rfl,-,-⟩:=hS.open
 generalize m.words.length=n1
 generalize m.texts.length=n2
 generalize m.subs.length=n3
 generalize m.num=k
 have hql:q<wr.heap.size:=World.block_lt_of_cell? wr _ hq
 obtain⟨z,HZ⟩:∃ z,Hid (z=decide (k=n)):=⟨_,rfl⟩
 rw[←HZ.out]
 have he:(k == n)=z:=by rw[HZ.out];rfl
 clear hW hT hS
 go_enter Tryz.func67,Tryz.ntmps67
 go_wp2_with fail
 go_ret
 refine⟨?_,by (with_reducible repeat first|exact Below.refl _ _|refine pzA ?_ _|refine pzB ?_ _|refine zab ?_ _|refine Below.drew ?_)⟩
 first|rfl|simp[he]|simp[HZ.out]
theorem zqe {d n l:Nat}{w:World}{pa:Option Addr}{pc:Nat}{uv:Value}{x:M (d+1)}(h:zap 0 n w fun W=>zac (d+1) W (.agg #[.slice pa l pc,uv]) x){k:Nat}{m:Val (M d)}(hk:(M.vals x)[k]?=some m) :
  ∃ b o v1 v2 v3,pa=some ⟨b,o,none⟩∧n≤b∧w.cell? ⟨b,o+k*4,none⟩=some (.int .i64 m.num)∧w.cell? ⟨b,o+k*4+1,none⟩=some v1∧w.cell? ⟨b,o+k*4+2,none⟩=some v2∧w.cell? ⟨b,o+k*4+3,none⟩=some v3 ∧
   zap 0 n w fun W=>zat (zac d) W (.agg #[.int .i64 m.num,v1,v2,v3]) m:=by
 obtain⟨vv,uv',e,hV,hU⟩:=h.here
 cases e
 obtain⟨-,a,c,e,-,hat⟩:=hV.open
 cases e
 obtain⟨b,o,v1,v2,v3,ha,g0,g1,g2,g3,hM⟩:=hat k m hk
 have hb:n≤b:=by
  rcases Nat.lt_or_ge b n with hlt|hge
  ·
   exfalso
   obtain⟨vv,uv',e,hV2,-⟩:=h (w.setCell ⟨b,o+k*4,none⟩ (.bool true)) fun c hc h0=>Below.heap_setCell w _ _ c (by show c≠b;omega)
   cases e
   obtain⟨-,a',c',e,-,hat2⟩:=hV2.open
   cases e
   obtain⟨b',o',_,_,_,ha',g0',-⟩:=hat2 k m hk
   rw[ha] at ha'
   cases ha'
   rw[World.cell?_setCell_same' _ _ _ (by rw[g0];rfl)] at g0'
   cases g0'
  ·
   exact hge
 refine⟨b,o,v1,v2,v3,ha,hb,g0,g1,g2,g3,fun W hW=>?_⟩
 obtain⟨vv,uv',e,hV2,-⟩:=h W hW
 cases e
 obtain⟨-,a',c',e,-,hat2⟩:=hV2.open
 cases e
 obtain⟨b',o',u1,u2,u3,ha',q0,q1,q2,q3,hM2⟩:=hat2 k m hk
 rw[ha] at ha'
 cases ha'
 have hbl:b<w.heap.size:=World.block_lt_of_cell? w _ g0
 have hc:∀ j,W.cell? ⟨b,j,none⟩=w.cell? ⟨b,j,none⟩:=fun j=>World.cell?_of_block (hW b hbl (.inr hb))
 rw[hc] at q1 q2 q3
 rw[g1] at q1
 rw[g2] at q2
 rw[g3] at q3
 cases q1
 cases q2
 cases q3
 exact hM2
def zot (d:Nat)(x:M (d+1))(n:Int)(w:World)(e:Ending)(w':World):Prop:=
 ∃ num a1 n1 c1 a2 n2 c2 a3 n3 c3,e= .returned (.tuple #[.agg #[.int .i64 num,.slice a1 n1 c1,.slice a2 n2 c2,.slice a3 n3 c3],.bool (zfZ (M.vals x) n).isSome])∧Below w.heap.size w w' ∧
  ∀ m,zfZ (M.vals x) n=some m→zap 0 w.heap.size w' fun W=>zat (zac d) W (.agg #[.int .i64 num,.slice a1 n1 c1,.slice a2 n2 c2,.slice a3 n3 c3]) m
theorem zpq {w:World}{v:Value}{d:Nat}{x:M (d+1)}(h:zac (d+1) w v x)(hw:mwt (d+1) x≤1099511627776)(n:Int) :
  Calls Tryz.prog 29 #[v,.int .i64 n] w (zot d x n w):=by
 have HM:=hid h
 have HMW:=hid hw
 obtain⟨vv,uv,rfl,hV,hU⟩:=h
 obtain⟨-,va,vc,rfl,-,-⟩:=hV.open
 obtain⟨-,ua,uc,rfl,-,-⟩:=hU.open
 obtain⟨un,HUN⟩:∃ n,Hid (n=(M.unk x).length):=⟨_,rfl⟩
 obtain⟨vn,HVN⟩:∃ n,Hid (n=(M.vals x).length):=⟨_,rfl⟩
 rw[←HUN.out,←HVN.out] at HM ⊢
 rw[←HVN.out] at hV
 obtain⟨Q,HQ⟩:∃ Q:Ending→World→Prop,Hid (Q=zot d x n w):=⟨_,rfl⟩
 rw[←HQ.out]
 obtain⟨B,HB⟩:∃ B,Hid (B=w.heap.size):=⟨_,rfl⟩
 have h3:=zjK w [.slice va vn vc,.slice ua un uc] [.int .i64 n] [.int .i64 0,.slice none 0 0,.slice none 0 0,.slice none 0 0] 27 3 32
 obtain⟨W0,HW0⟩:∃ W,Hid (W=((w.alloc (.cells #[.slice va vn vc,.slice ua un uc] 27)).alloc (.cells #[.int .i64 n] 3)).alloc (.cells #[.int .i64 0,.slice none 0 0,.slice none 0 0,.slice none 0 0] 32)):=⟨_,rfl⟩
 rw[←HW0.out,←HB.out] at h3
 obtain⟨hk0,hk1,hk2,hz0,hb0⟩:=h3
 have HB0:Hid (Below w.heap.size w W0):=by rw[←HB.out];exact hb0
 have HI:=hid (zi6 (hV.keep (zaa HB0.out) fun _ _ hx=>hx.below HB0.out) 67 #[.pointer (some ⟨B+1,0,none⟩)] (fun m=>decide (m.num=n)) (fun args w=>by simp[go_sem]) (fun m _ mv wr hm hb=>zmV (zaa hb _ _ (hk1.cell 0 _ rfl)) hm))
 have HBK:=hid (And.intro hk0 hk2)
 have x0:=hk0.cell 0 _ rfl
 have xl:=hk0.lt
 obtain⟨fi,HFI⟩:∃ i,Hid (i=zah (fun m=>decide (m.num=n)) (M.vals x) 0):=⟨_,rfl⟩
 rw[←HFI.out] at HI
 have hff:=zf0 (fun m:Val (M d)=>decide (m.num=n)) (M.vals x) 0
 rw[←HFI.out] at hff
 clear hV hU hk0 hk1 hk2 hz0 hb0 hw
 rcases hff with ⟨rfl,hf⟩|⟨k,m,rfl,hk,hf⟩
 ·
  have HE:Hid (∀ W,Below w.heap.size w W→Q (.returned (.tuple #[.agg #[.int .i64 0,.slice none 0 0,.slice none 0 0,.slice none 0 0],.bool false])) W):=fun W hW=>by
   rw[HQ.out]
   refine⟨0,none,0,0,none,0,0,none,0,0,?_,hW,fun m hm=>?_⟩
   ·
    rw[show zfZ (M.vals x) n=none from hf];rfl
   ·
    rw[show zfZ (M.vals x) n=none from hf] at hm;cases hm
  clear hf
  go_enter Tryz.func29,Tryz.ntmps29
  go_upto_region 1 with fail
  rw[←HW0.out,←HB.out]
  go_wp2_with fail
  refine HI.out.mono ?_
  rintro e w1 ⟨rfl,hb1⟩
  have hr:=HBK.out.2.below hb1
  have HB1:=hid hb1
  have r0:=hr.cell 0 _ rfl
  have r1:=hr.cell 1 _ rfl
  have r2:=hr.cell 2 _ rfl
  have r3:=hr.cell 3 _ rfl
  have f0:=hr.free 0
  have f1:=hr.free 1
  have f2:=hr.free 2
  have f3:=hr.free 3
  have rl:=hr.lt
  have hk2:=(zoJ (a:=.int .i64 0) (b:=.slice none 0 0) (c:=.slice none 0 0) (e:=.slice none 0 0) hr).1
  have hbt:=hr
  obtain⟨W2,HW2⟩:∃ W,Hid (W=(((w1.setCell ⟨B+1+1,0,none⟩ (.int .i64 0)).setCell ⟨B+1+1,1,none⟩ (.slice none 0 0)).setCell ⟨B+1+1,2,none⟩ (.slice none 0 0)).setCell ⟨B+1+1,3,none⟩ (.slice none 0 0)):=⟨_,rfl⟩
  have hB2:Below w.heap.size w W2:=by
   have h0:w.heap.size≤B+1+1:=by rw[HB.out];omega
   rw[HW2.out]
   exact (((((HB0.out.trans (HB1.out.mono HB0.out.size)).setCell h0 _).setCell h0 _).setCell h0 _).setCell h0 _)
  rw[←HW2.out] at hk2
  have s0:=hk2.cell 0 _ rfl
  have s1:=hk2.cell 1 _ rfl
  have s2:=hk2.cell 2 _ rfl
  have s3:=hk2.cell 3 _ rfl
  have HEN:=hid (HE.out W2 hB2)
  clear hr hbt hk2 hB2 hb1
  go_wp2_with fail
  rw[←HW2.out]
  exact bodyPost_ret (v:=.tuple #[.agg #[.int .i64 0,.slice none 0 0,.slice none 0 0,.slice none 0 0],.bool false]) (by simp[results,Tryz.results29,go_sem,s0,s1,s2,s3]) rfl HEN.out
 ·
  have HC:=hid fun (W:World) (hW:Below W0.heap.size W0 W)=>zdt (w0:=w) (d+1) W _ x (HB0.out.trans (hW.mono HB0.out.size)) HM.out HMW.out
  have hkl:k<vn:=by rw[HVN.out];exact (List.getElem?_eq_some_iff.1 hk).1
  have HE:Hid (∀ W num a1 n1 c1 a2 n2 c2 a3 n3 c3,Below w.heap.size w W→(zap 0 w.heap.size W fun W2=>zat (zac d) W2 (.agg #[.int .i64 num,.slice a1 n1 c1,.slice a2 n2 c2,.slice a3 n3 c3]) m)→Q (.returned (.tuple #[.agg #[.int .i64 num,.slice a1 n1 c1,.slice a2 n2 c2,.slice a3 n3 c3],.bool true])) W):=fun W num a1 n1 c1 a2 n2 c2 a3 n3 c3 hW hm=>by
   have e:zfZ (M.vals x) n=some m:=hf
   rw[HQ.out]
   refine⟨num,a1,n1,c1,a2,n2,c2,a3,n3,c3,by rw[e];rfl,hW,fun m' hm'=>?_⟩
   rw[e] at hm'
   cases hm'
   exact hm
  clear hf
  rw[Nat.zero_add] at HI HFI
  have HKM:=hid hk
  clear hk
  go_enter Tryz.func29,Tryz.ntmps29
  go_upto_region 1 with fail
  rw[←HW0.out,←HB.out]
  go_wp2_with fail
  refine HI.out.mono ?_
  rintro e w1 ⟨rfl,hb1⟩
  have HB1:=hid hb1
  have hkx:=HBK.out.1.below hb1
  have x0:=hkx.cell 0 _ rfl
  have x1:=hkx.cell 1 _ rfl
  have xl:=hkx.lt
  clear hb1 hkx
  have e1:decide ((k:Int)<0)=false:=decide_eq_false (by omega)
  go_wp2_with fail
  refine (HC.out w1 HB1.out).mono ?_
  rintro e w2 ⟨v2,rfl,hb2,hap⟩
  obtain⟨pa,pn,pc,ra,rn,rc,rfl⟩:=hap.here.form
  obtain⟨hpn,hrn⟩:pn=vn∧rn=un:=by
   obtain⟨vv,uv,e,hV2,hU2⟩:=hap.here
   obtain⟨-,_,_,rfl,-,-⟩:=hV2.open
   obtain⟨-,_,_,rfl,-,-⟩:=hU2.open
   rw[HVN.out,HUN.out]
   cases e
   exact⟨rfl,rfl⟩
  subst hpn
  subst hrn
  obtain⟨b,o,v1,v2,v3,ha,hbn,g0,g1,g2,g3,hMA⟩:=zqe hap HKM.out
  have hM:=hMA.here
  obtain⟨num,HNUM⟩:∃ n,Hid (n=m.num):=⟨_,rfl⟩
  rw[←HNUM.out] at g0
  obtain⟨wv,tv,sv,hform,hnum,hWo,hTe,hSu⟩:=hM
  obtain⟨-,a1,q1,rfl,-,-⟩:=hWo.open
  obtain⟨-,a2,q2,rfl,-,-⟩:=hTe.open
  obtain⟨-,a3,q3,rfl,-,-⟩:=hSu.open
  obtain⟨rfl,rfl,rfl⟩:v1= .slice a1 m.words.length q1∧v2= .slice a2 m.texts.length q2∧v3= .slice a3 m.subs.length q3:=by cases hform;exact⟨rfl,rfl,rfl⟩
  clear hform
  obtain⟨n1,HN1⟩:∃ n,Hid (n=m.words.length):=⟨_,rfl⟩
  obtain⟨n2,HN2⟩:∃ n,Hid (n=m.texts.length):=⟨_,rfl⟩
  obtain⟨n3,HN3⟩:∃ n,Hid (n=m.subs.length):=⟨_,rfl⟩
  rw[←HN1.out] at g1 hWo
  rw[←HN2.out] at g2 hTe
  rw[←HN3.out] at g3 hSu
  have hix:=zad Tryz.underlying24 zdd ha k hkl (cap:=pc)
  have hbl:=World.block_lt_of_cell? w2 _ g0
  have hfd:=zmU
  have hr:=HBK.out.2.below (HB1.out.trans (hb2.mono HB1.out.size))
  have r0:=hr.cell 0 _ rfl
  have r1:=hr.cell 1 _ rfl
  have r2:=hr.cell 2 _ rfl
  have r3:=hr.cell 3 _ rfl
  have f0:=hr.free 0
  have f1:=hr.free 1
  have f2:=hr.free 2
  have f3:=hr.free 3
  have rl:=hr.lt
  obtain⟨hk2,hbut⟩:=zoJ (a:=.int .i64 num) (b:=.slice a1 n1 q1) (c:=.slice a2 n2 q2) (e:=.slice a3 n3 q3) hr
  obtain⟨W2,HW2⟩:∃ W,Hid (W=(((w2.setCell ⟨B+1+1,0,none⟩ (.int .i64 num)).setCell ⟨B+1+1,1,none⟩ (.slice a1 n1 q1)).setCell ⟨B+1+1,2,none⟩ (.slice a2 n2 q2)).setCell ⟨B+1+1,3,none⟩ (.slice a3 n3 q3)):=⟨_,rfl⟩
  rw[←HW2.out] at hk2 hbut
  have hB02:=HB0.out.trans ((HB1.out.trans (hb2.mono HB1.out.size)).mono HB0.out.size)
  have hB2:Below w.heap.size w W2:=hB02.trans (hbut.to_below (by rw[HB.out];omega) hB02.size)
  have s0:=hk2.cell 0 _ rfl
  have s1:=hk2.cell 1 _ rfl
  have s2:=hk2.cell 2 _ rfl
  have s3:=hk2.cell 3 _ rfl
  have hmW:zap 0 w.heap.size W2 fun W=>zat (zac d) W (.agg #[.int .i64 num,.slice a1 n1 q1,.slice a2 n2 q2,.slice a3 n3 q3]) m:=fun W hW=>by
   have h0:=hMA W fun c hc h0=>(hW c (Nat.lt_of_lt_of_le hc hbut.size) (.inr (by have:=HB0.out.size;have:=HB1.out.size;omega))).trans (hbut.block c hc (by have:=HBK.out.2.lt;have:=HB1.out.size;omega))
   rw[←HNUM.out,←HN1.out,←HN2.out,←HN3.out] at h0
   exact h0
  have HEN:Hid (Q (.returned (.tuple #[.agg #[.int .i64 num,.slice a1 n1 q1,.slice a2 n2 q2,.slice a3 n3 q3],.bool true])) W2):=by
   exact HE.out W2 _ _ _ _ _ _ _ _ _ _ hB2 hmW
  clear hr hk2 hB2 hbut hap hMA hmW ha hb2 hB02 hnum hWo hTe hSu hbn
  go_wp2_with fail
  rw[←HW2.out]
  exact bodyPost_ret (v:=.tuple #[.agg #[.int .i64 num,.slice a1 n1 q1,.slice a2 n2 q2,.slice a3 n3 q3],.bool true]) (by simp[results,Tryz.results29,go_sem,s0,s1,s2,s3]) rfl HEN.out
end
section
open Go.RowKit
theorem zou {d n0 n l:Nat}{w:World}{pa:Option Addr}{pc:Nat}{uv:Value}{x:M (d+1)}(h:zap n0 n w fun W=>zac (d+1) W (.agg #[.slice pa l pc,uv]) x){k:Nat}{m:Val (M d)}(hk:(M.vals x)[k]?=some m) :
  ∃ b o v1 v2 v3,pa=some ⟨b,o,none⟩∧(b<n0∨n≤b)∧w.cell? ⟨b,o+k*4,none⟩=some (.int .i64 m.num)∧w.cell? ⟨b,o+k*4+1,none⟩=some v1∧w.cell? ⟨b,o+k*4+2,none⟩=some v2∧w.cell? ⟨b,o+k*4+3,none⟩=some v3 ∧
   zap n0 n w fun W=>zat (zac d) W (.agg #[.int .i64 m.num,v1,v2,v3]) m:=by
 obtain⟨vv,uv',e,hV,hU⟩:=h.here
 cases e
 obtain⟨-,a,c,e,-,hat⟩:=hV.open
 cases e
 obtain⟨b,o,v1,v2,v3,ha,g0,g1,g2,g3,hM⟩:=hat k m hk
 have hb:b<n0∨n≤b:=by
  by_cases hge:b<n0∨n≤b
  ·
   exact hge
  ·
   exfalso
   obtain⟨vv,uv',e,hV2,-⟩:=h (w.setCell ⟨b,o+k*4,none⟩ (.bool true)) fun c hc h0=>Below.heap_setCell w _ _ c (by show c≠b;rintro rfl;exact hge h0)
   cases e
   obtain⟨-,a',c',e,-,hat2⟩:=hV2.open
   cases e
   obtain⟨b',o',_,_,_,ha',g0',-⟩:=hat2 k m hk
   rw[ha] at ha'
   cases ha'
   rw[World.cell?_setCell_same' _ _ _ (by rw[g0];rfl)] at g0'
   cases g0'
 refine⟨b,o,v1,v2,v3,ha,hb,g0,g1,g2,g3,fun W hW=>?_⟩
 obtain⟨vv,uv',e,hV2,-⟩:=h W hW
 cases e
 obtain⟨-,a',c',e,-,hat2⟩:=hV2.open
 cases e
 obtain⟨b',o',u1,u2,u3,ha',q0,q1,q2,q3,hM2⟩:=hat2 k m hk
 rw[ha] at ha'
 cases ha'
 have hbl:b<w.heap.size:=World.block_lt_of_cell? w _ g0
 have hc:∀ j,W.cell? ⟨b,j,none⟩=w.cell? ⟨b,j,none⟩:=fun j=>World.cell?_of_block (hW b hbl hb)
 rw[hc] at q1 q2 q3
 rw[g1] at q1
 rw[g2] at q2
 rw[g3] at q3
 cases q1
 cases q2
 cases q3
 exact hM2
theorem zov {d n0 n l:Nat}{w:World}{num:Int}{s1 s2:Value}{pa:Option Addr}{pc:Nat}{m:Val (M d)}(h:zap n0 n w fun W=>zat (zac d) W (.agg #[.int .i64 num,s1,s2,.slice pa l pc]) m){k:Nat}{p:M d}(hk:m.subs[k]?=some p) :
  ∃ b o v1 v2,pa=some ⟨b,o,none⟩∧(b<n0∨n≤b)∧w.cell? ⟨b,o+k*2,none⟩=some v1∧w.cell? ⟨b,o+k*2+1,none⟩=some v2∧zap n0 n w fun W=>zac d W (.agg #[v1,v2]) p:=by
 obtain⟨wv,tv,sv,e,-,-,-,hS⟩:=h.here
 cases e
 obtain⟨-,a,c,e,-,hat⟩:=hS.open
 cases e
 obtain⟨b,o,v1,v2,ha,g0,g1,hM⟩:=hat k p hk
 have hb:b<n0∨n≤b:=by
  by_cases hge:b<n0∨n≤b
  ·
   exact hge
  ·
   exfalso
   obtain⟨wv,tv,sv,e,-,-,-,hS2⟩:=h (w.setCell ⟨b,o+k*2,none⟩ (.bool true)) fun c hc h0=>Below.heap_setCell w _ _ c (by show c≠b;rintro rfl;exact hge h0)
   cases e
   obtain⟨-,a',c',e,-,hat2⟩:=hS2.open
   cases e
   obtain⟨b',o',u1,u2,ha',g0',-,hM2⟩:=hat2 k p hk
   rw[ha] at ha'
   cases ha'
   rw[World.cell?_setCell_same' _ _ _ (by rw[g0];rfl)] at g0'
   obtain⟨_,_,_,_,_,_,e⟩:=hM2.form
   cases e
   cases g0'
 refine⟨b,o,v1,v2,ha,hb,g0,g1,fun W hW=>?_⟩
 obtain⟨wv,tv,sv,e,-,-,-,hS2⟩:=h W hW
 cases e
 obtain⟨-,a',c',e,-,hat2⟩:=hS2.open
 cases e
 obtain⟨b',o',u1,u2,ha',q0,q1,hM2⟩:=hat2 k p hk
 rw[ha] at ha'
 cases ha'
 have hbl:b<w.heap.size:=World.block_lt_of_cell? w _ g0
 have hc:∀ j,W.cell? ⟨b,j,none⟩=w.cell? ⟨b,j,none⟩:=fun j=>World.cell?_of_block (hW b hbl hb)
 rw[hc] at q0 q1
 rw[g0] at q0
 rw[g1] at q1
 cases q0
 cases q1
 exact hM2
end
end Go.Proofs.YtdpnmdkbdibkpaaGreatDoor
