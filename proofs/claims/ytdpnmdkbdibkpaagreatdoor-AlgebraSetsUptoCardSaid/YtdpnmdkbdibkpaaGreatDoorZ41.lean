/- darningref14.Same, SameValue of any two meanings: sameB, sameV. No condition. darningref14.Same of any two meanings: sameB. No condition. darningref14.Get, darningref24.unknown, Strangers. No condition. -/
import Derived.Test.YtdpnmdkbdibkpaaGreatDoorZ07
import Derived.Test.YtdpnmdkbdibkpaaGreatDoorZ12
import Derived.Test.YtdpnmdkbdibkpaaGreatDoorZ13
import Derived.Test.YtdpnmdkbdibkpaaGreatDoorZ36
import Derived.StillTailTactics
import Derived.Deep.CutBlock
import Derived.Deep.CutRange
namespace Go.Proofs.YtdpnmdkbdibkpaaGreatDoor
set_option maxRecDepth 100000
set_option maxHeartbeats 16000000
section
open Go.RowKit
theorem zmX (w:World):(sizeOf 38).run Tryz.prog w= .ok 2 w:=by kernel_rfl
theorem zfM (w:World):(sizeOf 42).run Tryz.prog w= .ok 4 w:=by kernel_rfl
end
section
open Go.RowKit
end
section
open Go.RowKit
theorem zox {α:Type}{l:List (Val α)}{n:Int}{k:Nat}{v:Val α}(hv:l[k]?=some v):zfZ (l.drop k) n=if v.num=n then some v else zfZ (l.drop (k+1)) n:=by
 obtain⟨h1,e1⟩:=List.getElem?_eq_some_iff.1 hv
 rw[List.drop_eq_getElem_cons h1,e1]
 unfold zfZ
 rw[List.find?_cons]
 by_cases h:v.num=n
 ·
  simp[h]
 ·
  simp[h]
def zqh {α:Type}(l:List (Val α))(n i:Int):Prop:=(i= -1∧zfZ l n=none)∨∃ (k:Nat) (v:Val α),i=(k:Int)∧l[k]?=some v∧v.num=n∧zfZ l n=some v
theorem zkk {α:Type}{P:World→Value→α→Prop}{w:World}{a1 a2:Option Addr}{n1 c1 n2 c2:Nat}{l:List (Val α)}(h:zeG P w (.slice a1 n1 c1) l)(n:Int) :
  Calls Tryz.prog 38 #[.agg #[.slice a1 n1 c1,.slice a2 n2 c2],.int .i64 n] w fun e w'=>∃ i,e= .returned (.int .i64 i)∧zqh l n i∧Below w.heap.size w w':=by
 obtain⟨hl,a,c,e,-,hat⟩:=h.open
 obtain⟨rfl,hn,rfl⟩:a1=a∧n1=l.length∧c1=c:=by injection e with e1 e2 e3;exact⟨e1,e2,e3⟩
 clear e
 have HN:=hid hn
 have HAT:=hid hat
 have hl1:n1≤140737488355328:=by omega
 obtain⟨A,HA⟩:∃ b,Hid (b=w.heap.size):=⟨_,rfl⟩
 obtain⟨W0,HW0⟩:∃ W,Hid (W=w.alloc (.cells #[.slice a1 n1 c1,.slice a2 n2 c2] 38)):=⟨_,rfl⟩
 have hb0:Below w.heap.size w W0:=by rw[HW0.out];(with_reducible repeat first|exact Below.refl _ _|refine pzA ?_ _|refine pzB ?_ _|refine zab ?_ _|refine Below.drew ?_)
 have hk0:Blk W0 A [.slice a1 n1 c1,.slice a2 n2 c2] 38:=by rw[HW0.out,HA.out];exact Blk.new w [.slice a1 n1 c1,.slice a2 n2 c2] _
 have HB0:=hid hb0
 have c0:=hk0.cell 0 _ rfl
 have cl:=hk0.lt
 clear h hl hn hat hb0 hk0
 go_enter Tryz.func38,Tryz.ntmps38
 go_upto_region 1 with fail
 rw[←HW0.out,←HA.out]
 go_wp2_with fail
 go_loop [5] (fun v5=>∃ i:Nat,i≤n1∧v5= .int .i64 (i:Int)∧Hid (zfZ l n=zfZ (l.drop i) n)) (fun v5=>n1 - (intOf v5).toNat)
 case atStart=>exact⟨0,by omega,rfl,rfl⟩
 case round =>
  obtain⟨i,hi,rfl,HI⟩:=hrel
  by_cases hlt:i<n1
  ·
   obtain⟨v,hv⟩:∃ v,l[i]?=some v:=⟨_,List.getElem?_eq_getElem (by rw[←HN.out];exact hlt)⟩
   obtain⟨b,o,v1,v2,v3,ha,g0,-⟩:=HAT.out i v hv
   replace g0:=zaa HB0.out _ _ g0
   have hix:=zad Tryz.underlying36 zfM ha i hlt (cap:=c1)
   have HD:=hid (zox (n:=n) hv)
   by_cases hvn:v.num=n
   ·
    have HF:Hid (zqh l n (i:Int)):=.inr ⟨i,v,rfl,hv,hvn,by rw[HI.out,HD.out,if_pos hvn]⟩
    rw[hvn] at g0
    clear hv ha HD HI hvn
    go_wp2_with fail
    go_ret
    exact⟨_,rfl,HF.out,HB0.out⟩
   ·
    have HI2:Hid (zfZ l n=zfZ (l.drop (i+1)) n):=by rw[Hid,HI.out,HD.out,if_neg hvn]
    have e1:(v.num == n)=false:=by simpa using hvn
    have e2:decide (v.num=n)=false:=decide_eq_false hvn
    generalize v.num=vn at *
    clear hv ha HD HI hvn
    go_wp2_with fail
    go_round
    case rel=>exact⟨i+1,by omega,by go_num,HI2.out⟩
    case measure=>simp[intOf];omega
  ·
   have HF:Hid (zqh l n (-1)):=.inl ⟨rfl,by rw[HI.out,List.drop_eq_nil_of_le (by rw[←HN.out];omega)];rfl⟩
   clear HI
   go_wp2_with fail
   go_ret
   exact⟨_,rfl,HF.out,HB0.out⟩
end
end Go.Proofs.YtdpnmdkbdibkpaaGreatDoor
