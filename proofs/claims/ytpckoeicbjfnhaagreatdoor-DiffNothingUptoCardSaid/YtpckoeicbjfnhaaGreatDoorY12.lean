/- Parts of a proof: texts of the author, merged. No condition of their own. -/
import Derived.Test.YtpckoeicbjfnhaaGreatDoorY05
import Derived.Test.YtpckoeicbjfnhaaGreatDoorY10
import Derived.Test.YtpckoeicbjfnhaaGreatDoorY11
namespace Go.Proofs.YtpckoeicbjfnhaaGreatDoor
set_option maxRecDepth 100000
set_option maxHeartbeats 16000000
section
open Go.RowKit
end
section
open Go.RowKit Go.Shelf
attribute [local go_sem] Oper.semAt_some
end
section
open Go.RowKit
theorem zqJ {w:World}{v:Value}{s:List Mes}(hS:zap w v s) :
  Calls Tryz.prog 8 #[v] w fun e w'=>(∃ b,e= .returned (.bool b))∧Below w.heap.size w w':=by
 obtain⟨hlen,a,cap,rfl,hat⟩:=hS.open
 obtain⟨n,HN⟩:∃ n,Hid (n=s.length):=⟨_,rfl⟩
 rw[←HN.out] at hat hlen ⊢
 have HAT:=hid hat
 clear hat hS
 go_enter Tryz.func8,Tryz.ntmps8
 go_wp2_with fail
 go_loopw [3,4,5] (fun v3 v4 _ wr=>∃ (z:Int) (i:Nat),v3= .int .i64 z∧i≤n∧v4= .int .i64 i∧Hid (Below w.heap.size w wr)) (fun _ v4 _ _=>n - (intOf v4).toNat)
 case atStart=>exact⟨0,0,rfl,by omega,rfl,Below.refl _ _⟩
 case round =>
  obtain⟨z,i,rfl,hi,rfl,HB⟩:=hrel
  by_cases hlt:i<n
  ·
   have hat:=HAT.out
   obtain⟨b,o,fv,ha,hnm,c0,c1,hfs⟩:=hat i hlt
   obtain⟨fl,fa,fcap,rfl,hft⟩:=hfs.open
   clear hat hfs
   obtain⟨fn,HFN⟩:∃ fn,Hid (fn=(s.getD i .zero).fields.length):=⟨_,rfl⟩
   obtain⟨nm,HNM⟩:∃ nm,Hid (nm=(s.getD i .zero).name):=⟨_,rfl⟩
   rw[←HFN.out] at fl c1 hft
   rw[←HNM.out] at hnm c0
   have HFT:=hid hft
   clear hft
   have hkr:=zaa HB.out
   replace c0:=hkr _ _ c0
   replace c1:=hkr _ _ c1
   clear hkr
   have hix:=zau Tryz.underlying23 zfm ha i hlt (cap:=cap)
   have hbl:b<wr.heap.size:=World.block_lt_of_cell? wr _ c0
   clear ha
   go_wp2_with fail
   go_quiet (fail)
   go_wp2_with fail
   obtain⟨wo,HWO⟩:∃ wo,Hid (wo=wr.drewN nq):=⟨_,rfl⟩
   rw[←HWO.out]
   have HBO:Hid (Below w.heap.size w wo):=by rw[HWO.out];exact zab HB.out _
   replace c1:wo.cell? ⟨b,o+i*2+1,none⟩=some (.slice fa fn fcap):=by rw[HWO.out];exact c1
   clear c0 hbl
   have HC1:=hid c1
   clear c1
   go_loopw [3,5] (fun v3 v5 wq=>∃ (z:Int) (k:Nat),v3= .int .i64 z∧k≤fn∧v5= .int .i64 k∧Hid (Below wo.heap.size wo wq)) (fun _ v5 _=>fn - (intOf v5).toNat)
   case atStart=>exact⟨_,0,rfl,by omega,rfl,Below.refl _ _⟩
   case round =>
    obtain⟨z2,k,rfl,hk,rfl,HBQ⟩:=hrel
    have c1:=zaa HBQ.out _ _ HC1.out
    have hbl:b<wr.heap.size:=World.block_lt_of_cell? wr _ c1
    by_cases hlk:k<fn
    ·
     have hft:=HFT.out
     obtain⟨b2,o2,ha2,hok,g0,-⟩:=hft k hlk
     clear hft
     have hkr:=zaa (HBO.out.trans (HBQ.out.mono HBO.out.size))
     replace g0:=hkr _ _ g0
     clear hkr
     obtain⟨fx,HFX⟩:∃ fx,Hid (fx=(s.getD i .zero).fields.getD k .zero):=⟨_,rfl⟩
     rw[←HFX.out] at hok g0
     have hsz:=hok.name
     have hix2:=zau Tryz.underlying74 zcY ha2 k hlk (cap:=fcap)
     have hbl2:b2<wr.heap.size:=World.block_lt_of_cell? wr _ g0
     clear ha2 hok
     go_wp2_with fail
     go_roundw
     case rel=>exact⟨_,k+1,rfl,hlk,by go_num,HBQ⟩
     case measure=>simp[intOf];omega
    ·
     go_wp2_with fail
     go_roundw
     case rel=>exact⟨_,i+1,rfl,hlt,by go_num,HBO.out.trans (HBQ.out.mono HBO.out.size)⟩
     case measure=>simp[intOf];omega
  ·
   go_wp2_with fail
   go_ret
   exact⟨⟨_,rfl⟩,HB.out⟩
end
section
open Go.RowKit Go.Shelf
def Rows (W:World)(base:Nat)(lv:Value)(ls:List (List UInt8)):Prop:=
 ∃ vs:List Value,W.ownsRow base 47 1 lv ls.length vs∧vs.length=ls.length∧∀ j,j<ls.length→Own W base (vs.getD j undef) (ls.getD j [])
theorem Own.mono {W:World}{b b':Nat}{v:Value}{l:List UInt8}(h:Own W b v l)(hb:b'≤b):Own W b' v l:=
 ⟨h.1,h.2.imp id (fun ⟨g,cap,cur,hv,hg,r⟩=>⟨g,cap,cur,hv,Nat.le_trans hb hg,r⟩)⟩
end
section
open Go.RowKit
theorem zpd {k:Int}(h:zac k=true):k=1∨k=2∨k=3∨k=4∨k=5∨k=6∨k=7∨k=8∨k=9∨k=10∨k=11∨k=12∨k=13∨k=14:=by
 have h':1≤k∧k≤14:=of_decide_eq_true h
 omega
theorem zkW (k:Int)(hk:k=1∨k=8)(x:Nat)(w:World) :
  Calls Tryz.prog 138 #[.int .i64 k,.int .u64 x] w fun e w'=>e= .returned (.tuple #[.int .u64 (zaE k x),.int .u8 0])∧Below w.heap.size w w':=by
 have HC:Hid (zaE k x=w32 x):=by rw[Hid,zaE,if_pos hk]
 have HK:Hid (zac k=true):=by rcases hk with rfl|rfl <;> rfl
 rcases hk with rfl|rfl
 all_goals
  go_enter Tryz.func138,Tryz.ntmps138
  go_wp2_with (first|(go_at_call 129;refine (zaQ _ _).mono ?_;rintro e w1 ⟨rfl,hb⟩;rw[HK.out])|(go_at_call 190;refine (znk x _).mono ?_;rintro e w2 ⟨rfl,rfl⟩)|(go_at_call 189;refine (znl x _).mono ?_;rintro e w3 ⟨rfl,rfl⟩))
  go_ret2
  exact⟨by rw[HC.out];rfl,hb⟩
theorem zl3 (x:Nat)(w:World) :
  Calls Tryz.prog 138 #[.int .i64 7,.int .u64 x] w fun e w'=>e= .returned (.tuple #[.int .u64 (zaE 7 x),.int .u8 0])∧Below w.heap.size w w':=by
 have HK:Hid (zac 7=true):=rfl
 by_cases h:0<x
 ·
  have HC:Hid (zaE 7 x=1):=by simp[Hid,zaE,h]
  go_enter Tryz.func138,Tryz.ntmps138
  go_wp2_with (go_at_call 129;refine (zaQ _ _).mono ?_;rintro e w1 ⟨rfl,hb⟩;rw[HK.out])
  go_ret2
  exact⟨by rw[HC.out];rfl,hb⟩
 ·
  have HC:Hid (zaE 7 x=0):=by simp[Hid,zaE,h]
  obtain rfl:x=0:=by omega
  go_enter Tryz.func138,Tryz.ntmps138
  go_wp2_with (go_at_call 129;refine (zaQ _ _).mono ?_;rintro e w1 ⟨rfl,hb⟩;rw[HK.out])
  go_ret2
  exact⟨by rw[HC.out];rfl,hb⟩
theorem zjX (s:ByteArray)(a b:Int)(w:World):(Instr.field 277 (.agg #[.string s,.int .i64 a,.int .i64 b]) 2).run Tryz.prog w= .ok (.int .i64 b) w:=by kernel_rfl
theorem zoq {k:Int}{n:Nat}(h:zaM k=true)(hn:kbits k=n):∀ (W:World) (r:Nat),zax W r zcK zds →
  (Instr.lookup 279 (.map (some r)) (.int .i64 k) false).run Tryz.prog W= .ok (.agg #[.string (kname k),.int .i64 (zas k),.int .i64 n]) W:=by
 intro W r hm
 have hl:=zbG (P:=Tryz.prog) zd0 Tryz.underlying279 zie hm k false
 rw[zfV,if_pos h,hn] at hl
 exact hl
theorem zjv (k:Int)(hk:k=3∨k=5∨k=9∨k=10∨k=11)(x:Nat)(w:World) :
  Calls Tryz.prog 138 #[.int .i64 k,.int .u64 x] w fun e w'=>e= .returned (.tuple #[.int .u64 (zaE k x),.int .u8 0])∧Below w.heap.size w w':=by
 have HC:Hid (zaE k x=x % 4294967296):=by rw[Hid,zaE,if_neg (by omega),if_neg (by omega),if_pos hk]
 have HK:Hid (zac k=true):=by rcases hk with rfl|rfl|rfl|rfl|rfl <;> rfl
 have HL:=hid (zoq (k:=k) (n:=32) (by rcases hk with rfl|rfl|rfl|rfl|rfl <;> rfl) (by rcases hk with rfl|rfl|rfl|rfl|rfl <;> rfl))
 rcases hk with rfl|rfl|rfl|rfl|rfl
 all_goals
  go_enter Tryz.func138,Tryz.ntmps138
  go_wp2_with (go_at_call 129;refine (zaQ _ _).mono ?_;rintro e w1 ⟨rfl,hb⟩;rw[HK.out])
  refine (zfk _).mono ?_
  rintro e w2 ⟨r,hm,hr,hb2,rfl⟩
  have hl:=HL.out w2 r hm
  have hfd:=zjX
  have HB:Hid (Below w.heap.size w w2):=hb.trans (hb2.mono hb.size)
  clear hb hb2
  go_wp2_with (go_at_call 191;refine (zpb x _).mono ?_;rintro e w3 ⟨rfl,rfl⟩)
  go_ret2
  exact⟨by rw[HC.out];first|rfl|go_num|(simp[go_sem];omega),HB.out⟩
theorem zhM (k:Int)(hk:k=2∨k=4∨k=6∨k=12∨k=13∨k=14)(x:Nat)(w:World) :
  Calls Tryz.prog 138 #[.int .i64 k,.int .u64 x] w fun e w'=>e= .returned (.tuple #[.int .u64 (zaE k x),.int .u8 0])∧Below w.heap.size w w':=by
 have HC:Hid (zaE k x=x):=by rw[Hid,zaE,if_neg (by omega),if_neg (by omega),if_neg (by omega)]
 have HK:Hid (zac k=true):=by rcases hk with rfl|rfl|rfl|rfl|rfl|rfl <;> rfl
 have HL:=hid (zoq (k:=k) (n:=64) (by rcases hk with rfl|rfl|rfl|rfl|rfl|rfl <;> rfl) (by rcases hk with rfl|rfl|rfl|rfl|rfl|rfl <;> rfl))
 rcases hk with rfl|rfl|rfl|rfl|rfl|rfl
 all_goals
  go_enter Tryz.func138,Tryz.ntmps138
  go_wp2_with (go_at_call 129;refine (zaQ _ _).mono ?_;rintro e w1 ⟨rfl,hb⟩;rw[HK.out])
  refine (zfk _).mono ?_
  rintro e w2 ⟨r,hm,hr,hb2,rfl⟩
  have hl:=HL.out w2 r hm
  have hfd:=zjX
  have HB:Hid (Below w.heap.size w w2):=hb.trans (hb2.mono hb.size)
  clear hb hb2
  go_wp2_with fail
  go_ret2
  exact⟨by rw[HC.out];rfl,HB.out⟩
theorem zcP {k:Int}(hk:zac k=true)(x:Nat)(w:World) :
  Calls Tryz.prog 138 #[.int .i64 k,.int .u64 x] w fun e w'=>e= .returned (.tuple #[.int .u64 (zaE k x),.int .u8 0])∧Below w.heap.size w w':=by
 rcases zpd hk with h|h|h|h|h|h|h|h|h|h|h|h|h|h
 case inr.inr.inr.inr.inr.inr.inl=>subst h;exact zl3 x w
 all_goals first
  | exact zkW k (by omega) x w
  | exact zjv k (by omega) x w
  | exact zhM k (by omega) x w
end
end Go.Proofs.YtpckoeicbjfnhaaGreatDoor
