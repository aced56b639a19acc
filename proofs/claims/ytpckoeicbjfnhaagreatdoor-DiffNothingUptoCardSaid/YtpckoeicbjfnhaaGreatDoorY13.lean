/- Parts of a proof: texts of the author, merged. No condition of their own. -/
import Derived.Test.YtpckoeicbjfnhaaGreatDoorY07
import Derived.Test.YtpckoeicbjfnhaaGreatDoorY09
import Derived.Test.YtpckoeicbjfnhaaGreatDoorY11
import Derived.Test.YtpckoeicbjfnhaaGreatDoorY12
import Derived.Deep.AppendLies
import Derived.Deep.RegionHeld3
import Derived.Deep.DeepCutAuto
import Derived.Laws.BitsAllLaws
namespace Go.Proofs.YtpckoeicbjfnhaaGreatDoor
set_option maxRecDepth 100000
set_option maxHeartbeats 16000000
section
open Go.RowKit
theorem zfo (w:World):(sizeOf 81).run Tryz.prog w= .ok 4 w:=by kernel_rfl
theorem zep (w:World):(sizeOf 27).run Tryz.prog w= .ok 2 w:=by kernel_rfl
theorem zkX (w:World):(sizeOf 9).run Tryz.prog w= .ok 1 w:=by kernel_rfl
theorem zhY (w:World):(sizeOf 107).run Tryz.prog w= .ok 1 w:=by kernel_rfl
end
section
open Go.RowKit
theorem zir (x k:Nat):(x:Int) / 2 ^ (8*k) % 256=((b8 (x / 256 ^ k % 256)).toNat:Int):=by
 have e:(2:Int) ^ (8*k)=((256 ^ k:Nat):Int):=by
  rw[Int.pow_mul]
  simp
 rw[e]
 simp[b8]
theorem zkY (x:Nat)(w:World) :
  Calls Tryz.prog 187 #[.int .u64 x,.int .i64 4] w fun e w'=>∃ v',e= .returned v'∧Own w' w.heap.size v' (zcq 4 x)∧Below w.heap.size w w':=by
 go_enter Tryz.func187,Tryz.ntmps187
 go_wp2_with fail
 go_loopw [5,6,10] (fun v5 _ v10 wr=>∃ k:Nat,k≤4∧v10= .int .i64 k∧Hid (Below w.heap.size w wr∧Own wr w.heap.size v5 (zcq k x))) (fun _ _ v10 _=>4 - (intOf v10).toNat)
 case atStart=>exact⟨0,by omega,rfl,Below.refl _ _,zfZ _ _⟩
 case round =>
  obtain⟨k,hk,rfl,HB⟩:=hrel
  by_cases hlt:k<4
  ·
   have hB:=zgo wr 5 (b8 (x / 256 ^ k % 256)) ((x:Int) / 2 ^ (8*k) % 256) (zir x k)
   have hlen:=zaZ k x
   obtain⟨v',w',hr,hO',hg,-⟩:=zbh (w:=wr.alloc (.cells #[.int .u8 ((x:Int) / 2 ^ (8*k) % 256)] 5)) (World.ownsRow.alloc HB.out.2 _) hB (by rw[hlen];simp;omega) (by have:=HB.out.1.size;simp;omega)
   have HR:=hid hr
   have HO2:=hid hO'
   have hg2:=zc7 (w:=wr.alloc (.cells #[.int .u8 ((x:Int) / 2 ^ (8*k) % 256)] 5)) (World.ownsRow.alloc HB.out.2 _) (HB.out.1.alloc HB.out.1.size _) hg
   have HG2:=hid hg2
   clear hB hlen hr hO' hg hg2
   go_wp2_with (at_builtin;refine zad rfl _ _ _ rfl _ _ rfl rfl HR.out ?_)
   go_roundw
   case rel=>exact⟨k+1,hlt,by go_num,HG2.out,by rw[zf1];exact HO2.out⟩
   case measure=>simp[intOf];omega
  ·
   obtain rfl:k=4:=by omega
   go_wp2_with fail
   go_ret
   exact⟨_,rfl,HB.out.2,HB.out.1⟩
theorem zkZ (x:Nat)(w:World) :
  Calls Tryz.prog 187 #[.int .u64 x,.int .i64 8] w fun e w'=>∃ v',e= .returned v'∧Own w' w.heap.size v' (zcq 8 x)∧Below w.heap.size w w':=by
 go_enter Tryz.func187,Tryz.ntmps187
 go_wp2_with fail
 go_loopw [5,6,10] (fun v5 _ v10 wr=>∃ k:Nat,k≤8∧v10= .int .i64 k∧Hid (Below w.heap.size w wr∧Own wr w.heap.size v5 (zcq k x))) (fun _ _ v10 _=>8 - (intOf v10).toNat)
 case atStart=>exact⟨0,by omega,rfl,Below.refl _ _,zfZ _ _⟩
 case round =>
  obtain⟨k,hk,rfl,HB⟩:=hrel
  by_cases hlt:k<8
  ·
   have hB:=zgo wr 5 (b8 (x / 256 ^ k % 256)) ((x:Int) / 2 ^ (8*k) % 256) (zir x k)
   have hlen:=zaZ k x
   obtain⟨v',w',hr,hO',hg,-⟩:=zbh (w:=wr.alloc (.cells #[.int .u8 ((x:Int) / 2 ^ (8*k) % 256)] 5)) (World.ownsRow.alloc HB.out.2 _) hB (by rw[hlen];simp;omega) (by have:=HB.out.1.size;simp;omega)
   have HR:=hid hr
   have HO2:=hid hO'
   have hg2:=zc7 (w:=wr.alloc (.cells #[.int .u8 ((x:Int) / 2 ^ (8*k) % 256)] 5)) (World.ownsRow.alloc HB.out.2 _) (HB.out.1.alloc HB.out.1.size _) hg
   have HG2:=hid hg2
   clear hB hlen hr hO' hg hg2
   go_wp2_with (at_builtin;refine zad rfl _ _ _ rfl _ _ rfl rfl HR.out ?_)
   go_roundw
   case rel=>exact⟨k+1,hlt,by go_num,HG2.out,by rw[zf1];exact HO2.out⟩
   case measure=>simp[intOf];omega
  ·
   obtain rfl:k=8:=by omega
   go_wp2_with fail
   go_ret
   exact⟨_,rfl,HB.out.2,HB.out.1⟩
theorem zcQ (k:Int)(hk:k=0∨k=1∨k=5)(w:World) :
  Calls Tryz.prog 184 #[.int .i64 k] w fun e w'=>e= .returned (.int .i64 (if k=1 then 8 else if k=5 then 4 else 0))∧w=w':=by
 rcases hk with rfl|rfl|rfl
 all_goals
  go_enter Tryz.func184,Tryz.ntmps184
  go_wp2_with fail
  go_ret
  exact⟨rfl,rfl⟩
theorem zpe {k:Int}(hk:zac k=true):(zas k=1∧∀ x,zeQ k x=zcq 8 (zaE k x))∨(zas k=5∧∀ x,zeQ k x=zcq 4 (zaE k x))∨(zas k=0∧∀ x,zeQ k x=zeJ (zaE k x)):=by
 have hk':1≤k∧k≤14:=of_decide_eq_true hk
 unfold zas zeQ
 rw[if_neg (by omega),if_neg (by omega)]
 by_cases h1:12≤k
 ·
  exact .inl ⟨by rw[if_pos h1],fun x=>by rw[if_pos h1]⟩
 ·
  by_cases h2:9≤k
  ·
   exact .inr (.inl ⟨by rw[if_neg h1,if_pos h2],fun x=>by rw[if_neg h1,if_pos h2]⟩)
  ·
   exact .inr (.inr ⟨by rw[if_neg h1,if_neg h2],fun x=>by rw[if_neg h1,if_neg h2]⟩)
theorem zjY {k:Int}(hk:zac k=true)(x:Nat)(hx:x<2 ^ 64)(w:World) :
  Calls Tryz.prog 132 #[.int .i64 k,.int .u64 x] w fun e w'=>∃ v',e= .returned (.tuple #[v',.int .u8 0])∧Own w' w.heap.size v' (zeQ k x)∧Below w.heap.size w w':=by
 have HK:=hid hk
 have hkr:zaM k=true:=by
  have h:1≤k∧k≤14:=of_decide_eq_true hk
  simp[zaM];omega
 have HKR:=hid hkr
 have HC64:=hid (zdv k hx)
 obtain⟨y,HY⟩:∃ y,Hid (y=zaE k x):=⟨_,rfl⟩
 rw[←HY.out] at HC64
 have HYL:Hid (y≤18446744073709551615):=by have:=HC64.out;show _≤_;omega
 have hc:=zpe hk
 clear hk hkr hx
 rcases hc with ⟨h1,h2⟩|⟨h1,h2⟩|⟨h1,h2⟩
 all_goals
  have H1:=hid h1
  have H2:=hid (h2 x)
  rw[←HY.out] at H2
  clear h1 h2
 ·
  go_enter Tryz.func132,Tryz.ntmps132
  go_wp2_with (first|(go_at_call 138;refine (zcP HK.out _ _).mono ?_;rintro e w1 ⟨rfl,hb1⟩;rw[←HY.out])|(go_at_call 126;refine (zc3 _ _).mono ?_;rintro e w2 ⟨rfl,hb2⟩;rw[HKR.out,H1.out])|(go_at_call 184;refine (zcQ 1 (by decide) _).mono ?_;rintro e w3 ⟨rfl,rfl⟩)|(go_at_call 187;refine (zkZ y _).mono ?_;rintro e w4 ⟨v4,rfl,hO,hb4⟩))
  have hb:=hb1.trans (hb2.mono hb1.size)
  go_ret2
  exact⟨_,rfl,by rw[H2.out];exact hO.mono hb.size,hb.trans (hb4.mono hb.size)⟩
 ·
  go_enter Tryz.func132,Tryz.ntmps132
  go_wp2_with (first|(go_at_call 138;refine (zcP HK.out _ _).mono ?_;rintro e w1 ⟨rfl,hb1⟩;rw[←HY.out])|(go_at_call 126;refine (zc3 _ _).mono ?_;rintro e w2 ⟨rfl,hb2⟩;rw[HKR.out,H1.out])|(go_at_call 184;refine (zcQ 5 (by decide) _).mono ?_;rintro e w3 ⟨rfl,rfl⟩)|(go_at_call 187;refine (zkY y _).mono ?_;rintro e w4 ⟨v4,rfl,hO,hb4⟩))
  have hb:=hb1.trans (hb2.mono hb1.size)
  go_ret2
  exact⟨_,rfl,by rw[H2.out];exact hO.mono hb.size,hb.trans (hb4.mono hb.size)⟩
 ·
  go_enter Tryz.func132,Tryz.ntmps132
  go_wp2_with (first|(go_at_call 138;refine (zcP HK.out _ _).mono ?_;rintro e w1 ⟨rfl,hb1⟩;rw[←HY.out])|(go_at_call 126;refine (zc3 _ _).mono ?_;rintro e w2 ⟨rfl,hb2⟩;rw[HKR.out,H1.out])|(go_at_call 184;refine (zcQ 0 (by decide) _).mono ?_;rintro e w3 ⟨rfl,rfl⟩)|(go_at_call 181;refine (zg0 (l:=[]) (zqw _) (by simp) y HC64.out).mono ?_;rintro e w4 ⟨v4,rfl,hO,hb4⟩))
  have hb:=hb1.trans (hb2.mono hb1.size)
  go_ret2
  exact⟨_,rfl,by rw[H2.out];exact hO.mono hb.size,hb.trans (hb4.mono hb.size)⟩
theorem zsh {k:Int}(hk:zac k=true){w:World}{v:Value}{l:List Nat}(h:zby w v l)(hl:l.length≤68719476736) :
  Calls Tryz.prog 183 #[.int .i64 k,v] w fun e w'=>∃ v',e= .returned (.tuple #[v',.int .u8 0])∧Own w' w.heap.size v' (zbR k l)∧Below w.heap.size w w':=by
 have HK:=hid hk
 have HL64:Hid (∀ x∈l,x<2 ^ 64):=h.2
 obtain⟨hlen,a,cap,rfl,-,hat⟩:=h.open
 have HPL:Hid (∀ i,(zbR k (l.take i)).length≤10*l.length):=by
  intro i
  have h1:=zeo k (l.take i) (fun x hx=>HL64.out x (List.mem_of_mem_take hx))
  have h2:(l.take i).length≤l.length:=by rw[List.length_take];omega
  omega
 obtain⟨n,HN⟩:∃ n,Hid (n=l.length):=⟨_,rfl⟩
 rw[←HN.out] at hlen hl HPL ⊢
 have HAT:=hid hat
 have HNL:=hid hl
 clear hat h hk hl
 go_enter Tryz.func183,Tryz.ntmps183
 go_wp2_with (go_at_call 129;refine (zaQ _ _).mono ?_;rintro e w1 ⟨rfl,hb1⟩;rw[HK.out])
 have HB1:=hid hb1
 clear hb1
 go_loopw [6,8,9,10,16] (fun v6 _ _ _ v16 wr=>∃ i:Nat,i≤n∧v16= .int .i64 i∧Hid (Below w.heap.size w wr∧Own wr w.heap.size v6 (zbR k (l.take i)))) (fun _ _ _ _ v16 _=>n - (intOf v16).toNat)
 case atStart=>exact⟨0,by omega,rfl,HB1.out,zfZ _ _⟩
 case round =>
  obtain⟨i,hi,rfl,HB⟩:=hrel
  by_cases hlt:i<n
  ·
   have hat:=HAT.out
   have hxi:l[i]?=some (l[i]'(by rw[←HN.out];exact hlt)):=List.getElem?_eq_getElem _
   generalize l[i]'(by rw[←HN.out];exact hlt)=x at hxi
   obtain⟨hx64,b,o,ha,cj⟩:=hat i x hxi
   clear hat
   have hix:=zaj Tryz.underlying62 zhY ha i hlt (cap:=cap)
   have cj':=zaa HB.out.1 _ _ cj
   have hbl:b<wr.heap.size:=World.block_lt_of_cell? wr _ cj'
   have HX:=hid hx64
   have HT:=hid (zpc k l i x hxi)
   have HTL:Hid ((zbR k (l.take i)).length+(zeQ k x).length≤687194767360):=by
    have h1:=HPL.out (i+1)
    rw[HT.out,List.length_append] at h1
    have:=HNL.out
    show _≤_;omega
   have HU:Hid (zkV x= .int .u64 x):=rfl
   rw[HU.out] at cj'
   clear ha cj hx64 hxi
   go_wp2_with fail
   refine (zjY HK.out x HX.out _).mono ?_
   rintro e w2 ⟨v2,rfl,hO2,hb2⟩
   have hO:=HB.out.2.below_of hb2
   have hB2:=HB.out.1.trans (hb2.mono HB.out.1.size)
   obtain⟨v3,w3,hr3,hO3,hg3,-⟩:=zbh hO (hO2.bytes (by have:=HTL.out;omega)) (by have:=HTL.out;omega) hB2.size
   have HR3:=hid hr3
   have HO3:=hid hO3
   have HB3:=hid (zc7 hO hB2 hg3)
   clear hO2 hb2 hO hB2 hr3 hO3 hg3
   go_wp2_with (at_builtin;refine zad rfl _ _ _ rfl _ _ rfl rfl HR3.out ?_)
   go_roundw
   case rel=>exact⟨i+1,hlt,by go_num,HB3.out,by rw[HT.out];exact HO3.out⟩
   case measure=>simp[intOf];omega
  ·
   obtain rfl:i=n:=by omega
   have hO:=HB.out.2
   rw[List.take_of_length_le (by rw[HN.out];exact Nat.le_refl _)] at hO
   have HO:=hid hO
   clear hO
   go_wp2_with fail
   go_ret2
   exact⟨_,rfl,HO.out,HB.out.1⟩
end
section
open Go.RowKit
theorem tag_or (n w:Nat)(h:w<8)(hn:n≤536870911):bits .or .u64 ((n:Int)*8) (w:Int)=((8*n+w:Nat):Int):=by
 have:=u64_or_nat (n*8) w (by omega) (by omega)
 rw[show ((n:Int)*8)=((n*8:Nat):Int) by omega,this]
 have h2:=Nat.two_pow_add_eq_or_of_lt (i:=3) h n
 have h3:n*8 ||| w=8*n+w:=by simpa [Nat.mul_comm] using h2.symm
 rw[h3]
theorem zsi (n x:Nat)(hn:n≤536870911)(hx:x<8)(w:World) :
  Calls Tryz.prog 220 #[.agg #[.int .i64 n,.int .i64 x]] w fun e w'=>e= .returned (.int .u64 ((8*n+x:Nat):Int))∧Below w.heap.size w w':=by
 have HO:=hid (tag_or n x hx hn)
 go_enter Tryz.func220,Tryz.ntmps220
 go_wp2_with fail
 go_ret
 exact⟨zfS (zdm (by first|exact HO.out|(rw[←HO.out];congr 1;omega))),by (with_reducible repeat first|exact Below.refl _ _|refine pzA ?_ _|refine pzB ?_ _|refine zab ?_ _|refine Below.drew ?_)⟩
theorem zqK (n x:Nat)(h:zcg n x=true){w:World}{v:Value}{l:List UInt8}(hv:zal w v l)(hl:l.length≤1099511627776) :
  Calls Tryz.prog 179 #[v,.agg #[.int .i64 n,.int .i64 x]] w fun e w'=>∃ v',e= .returned (.tuple #[v',.int .u8 0])∧Own w' w.heap.size v' (l++zeJ (8*n+x))∧Below w.heap.size w w':=by
 have H:=hid h
 have hb:(1:Int)≤n∧(n:Int)≤536870911∧((x:Int)=0∨(x:Int)=1∨(x:Int)=2∨(x:Int)=5):=of_decide_eq_true h
 have HV:=hid hv
 have HLB:=hid hl
 obtain⟨hlen,a,cap,rfl,-,-,-,-⟩:=hv.open
 clear h hv hl
 go_enter Tryz.func179,Tryz.ntmps179
 go_wp2_with (first|(go_at_call 219;refine (zic n x (by omega) _).mono ?_;rintro e w1 ⟨rfl,hb1⟩;rw[H.out];have HB1:=hid (((Below.refl w.heap.size w).alloc (Nat.le_refl _) _).trans (hb1.mono (by simp)));have hk:=(Blk.new w [.int .i64 n,.int .i64 x] 283).below hb1;have c1:=hk.cell 0 _ rfl;have c2:=hk.cell 1 _ rfl;clear hb1 hk)|(go_at_call 220;refine (zsi n x (by omega) (by omega) _).mono ?_;rintro e w2 ⟨rfl,hb2⟩;have HB2:=hid (HB1.out.trans (hb2.mono HB1.out.size));clear hb2)|(go_at_call 181;refine (zg0 (HV.out.below HB2.out) HLB.out (8*n+x) (by omega)).mono ?_;rintro e w3 ⟨v3,rfl,hO3,hb3⟩))
 go_ret2
 exact⟨_,rfl,hO3.mono HB2.out.size,HB2.out.trans (hb3.mono HB2.out.size)⟩
theorem zis (x:Nat){w:World}{v:Value}{l:List UInt8}(h:zcI x l=true)(hv:zal w v l) :
  Calls Tryz.prog 180 #[.int .i64 x,v] w fun e w'=>e= .returned (.bool true)∧Below w.heap.size w w':=by
 obtain⟨hlen,a,cap,rfl,-,-,-,-⟩:=hv.open
 have HV:=hid hv
 by_cases h0:x=0
 ·
  subst h0
  have h1:(zaO l).2.2=0∧(zaO l).2.1=l.length:=by simpa [zcI] using h
  have HC:=hid h1.1
  have HN:=hid h1.2
  clear h h1 hv
  go_enter Tryz.func180,Tryz.ntmps180
  go_wp2_with (go_at_call 221;refine (zfT HV.out).mono ?_;rintro e w' ⟨rfl,rfl⟩;rw[HC.out,HN.out])
  go_ret
  exact⟨rfl,Below.refl _ _⟩
 by_cases h1:x=1
 ·
  subst h1
  have h1:l.length=8:=by simpa [zcI] using h
  rw[h1] at *
  clear h hv
  go_enter Tryz.func180,Tryz.ntmps180
  go_wp2_with fail
  go_ret
  exact⟨rfl,Below.refl _ _⟩
 by_cases h5:x=5
 ·
  subst h5
  have h1:l.length=4:=by simpa [zcI] using h
  rw[h1] at *
  clear h hv
  go_enter Tryz.func180,Tryz.ntmps180
  go_wp2_with fail
  go_ret
  exact⟨rfl,Below.refl _ _⟩
 ·
  have h2:x=2:=by
   unfold zcI at h
   rw[if_neg (by omega),if_neg (by omega),if_neg (by omega)] at h
   have:=of_decide_eq_true h
   omega
  subst h2
  clear h hv h0 h1 h5
  go_enter Tryz.func180,Tryz.ntmps180
  go_wp2_with fail
  go_ret
  exact⟨rfl,Below.refl _ _⟩
theorem zor (n x:Nat)(t:List UInt8):zcj n x t=zeJ (8*n+x)++((if x=2 then zeJ t.length else [])++t):=by
 unfold zcj
 rw[show (8*(n:Int)+(x:Int)).toNat=8*n+x by omega]
 by_cases h:x=2
 ·
  rw[if_pos h,if_pos (by omega)]
 ·
  rw[if_neg h,if_neg (by omega)]
theorem zpf (n x:Nat)(h:zcg n x=true){w:World}{v vt:Value}{l t:List UInt8}(hv:zal w v l)(hl:l.length≤549755813888)(hvt:zal w vt t)(ht:t.length≤549755813888)(hf:zcI x t=true) :
  Calls Tryz.prog 128 #[v,.int .i64 n,.int .i64 x,vt] w fun e w'=>∃ v',e= .returned (.tuple #[v',.int .u8 0])∧Own w' w.heap.size v' (l++zcj n x t)∧Below w.heap.size w w':=by
 have H:=hid h
 have hb:(1:Int)≤n∧(n:Int)≤536870911∧((x:Int)=0∨(x:Int)=1∨(x:Int)=2∨(x:Int)=5):=of_decide_eq_true h
 have HV:=hid hv
 have HVT:=hid hvt
 have HF:=hid hf
 have HLB:=hid hl
 have HLT:=hid ht
 have HT10:Hid ((zeJ (8*n+x)).length≤10):=ze3 (by omega)
 have HPL:Hid ((zeJ t.length).length≤10):=ze3 (by omega)
 have HQ:=hid (zor n x t)
 obtain⟨hlen,a,cap,rfl,-,-,-,-⟩:=hv.open
 obtain⟨htlen,ta,tcap,rfl,-,-,-,-⟩:=hvt.open
 obtain⟨tn,HTN⟩:∃ n,Hid (n=t.length):=⟨_,rfl⟩
 rw[←HTN.out] at HPL HQ htlen HVT HLT ht ⊢
 clear h hv hvt hf
 by_cases h2:x=2
 ·
  subst h2
  go_enter Tryz.func128,Tryz.ntmps128
  go_wp2_with (first|(go_at_call 179;refine (zqK n 2 H.out HV.out (by have:=HLB.out;omega)).mono ?_;rintro e w1 ⟨v1,rfl,hO1,hb1⟩;have HO1:=hid hO1;have HB1:=hid hb1;clear hO1 hb1)|(go_at_call 180;refine (zis 2 HF.out (HVT.out.below HB1.out)).mono ?_;rintro e w2 ⟨rfl,hb2⟩;have HB2:=hid (HB1.out.trans (hb2.mono HB1.out.size));have HO2:=hid (HO1.out.below_of hb2);clear hb2))
  refine (zg0 (HO2.out.bytes (by rw[List.length_append];have:=HT10.out;have:=HLB.out;omega)) (by rw[List.length_append];have:=HT10.out;have:=HLB.out;omega) tn (by omega)).mono ?_
  rintro e w3 ⟨v3,rfl,hO3,hb3⟩
  have hB3:=HB2.out.trans (hb3.mono HB2.out.size)
  have hO3':=hO3.mono HB2.out.size
  obtain⟨v4,w4,hr4,hO4,hg4,-⟩:=zbh hO3' (HVT.out.below hB3) (by rw[List.length_append,List.length_append,←HTN.out];have:=HT10.out;have:=HPL.out;have:=HLB.out;omega) hB3.size
  have HR4:=hid hr4
  have HO4:=hid hO4
  have HB4:=hid (zc7 hO3' hB3 hg4)
  clear hO3 hb3 hB3 hO3' hr4 hO4 hg4
  go_wp2_with (at_builtin;refine zad rfl _ _ _ rfl _ _ rfl rfl HR4.out ?_)
  go_ret2
  refine⟨_,rfl,?_,HB4.out⟩
  rw[HQ.out,if_pos trivial]
  have h4:=HO4.out
  simp only[List.append_assoc] at h4
  exact h4
 ·
  have HX:Hid (zcj n x t=zeJ (8*n+x)++t):=by rw[Hid,HQ.out,if_neg h2];rfl
  go_enter Tryz.func128,Tryz.ntmps128
  go_wp2_with (first|(go_at_call 179;refine (zqK n x H.out HV.out (by have:=HLB.out;omega)).mono ?_;rintro e w1 ⟨v1,rfl,hO1,hb1⟩;have HO1:=hid hO1;have HB1:=hid hb1;clear hO1 hb1)|(go_at_call 180;refine (zis x HF.out (HVT.out.below HB1.out)).mono ?_;rintro e w2 ⟨rfl,hb2⟩;have HB2:=hid (HB1.out.trans (hb2.mono HB1.out.size));have hO2:=HO1.out.below_of hb2;obtain⟨v4,w4,hr4,hO4,hg4,-⟩:=zbh hO2 (HVT.out.below HB2.out) (by rw[List.length_append,←HTN.out];have:=HT10.out;have:=HLB.out;omega) HB2.out.size;have HR4:=hid hr4;have HO4:=hid hO4;have HB4:=hid (zc7 hO2 HB2.out hg4);clear hb2 hO2 hr4 hO4 hg4)|(at_builtin;refine zad rfl _ _ _ rfl _ _ rfl rfl HR4.out ?_))
  go_ret2
  refine⟨_,rfl,?_,HB4.out⟩
  rw[HX.out,←List.append_assoc]
  exact HO4.out
end
section
open Go.RowKit
def zc8 (n0 base:Nat)(w:World)(P:World→Prop):Prop:=∀ w',(∀ b,b<w.heap.size→(b<n0∨base≤b)→w'.heap[b]?=w.heap[b]?)→P w'
theorem zc8.here {n0 base:Nat}{w:World}{P:World→Prop}(h:zc8 n0 base w P):P w:=h w fun _ _ _=>rfl
theorem zc8.later {n0 base:Nat}{w w2:World}{P:World→Prop}(h:zc8 n0 base w P)(hb:Below w.heap.size w w2):zc8 n0 base w2 P:=fun w' hw'=>h w' fun b hlt hc=>(hw' b (Nat.lt_of_lt_of_le hlt hb.size) hc).trans (hb.block b hlt)
def zaf {α:Type}(P:World→List Value→α→Prop)(T:TypeId)(k n0 base:Nat)(w:World)(v:Value)(l:List α):Prop:=
 ∃ rows:List (List Value),rows.length=l.length∧(∀ r∈rows,r.length=k)∧w.ownsRow base T k v l.length rows.flatten ∧
  ∀ w',(∀ b,b<w.heap.size→v.ownBlock≠some b→(b<n0∨base≤b)→w'.heap[b]?=w.heap[b]?)→∀ (i:Nat) (r:List Value) (x:α),rows[i]?=some r→l[i]?=some x→P w' r x
theorem zaf.nil {α:Type}(P:World→List Value→α→Prop)(T:TypeId)(k n0 base:Nat)(w:World):zaf P T k n0 base w (.slice none 0 0) []:=
 ⟨[],rfl,by simp,World.ownsRow_nil _ _ _ _,fun _ _ i r x h=>by simp at h⟩
theorem zaf.later {α:Type}{P:World→List Value→α→Prop}{T:TypeId}{k n0 base:Nat}{w w2:World}{v:Value}{l:List α}(h:zaf P T k n0 base w v l)
  (hw:∀ b,b<w.heap.size→(b<n0∨base≤b)→w2.heap[b]?=w.heap[b]?) (hs:w.heap.size≤w2.heap.size):zaf P T k n0 base w2 v l:=by
 obtain⟨rows,h1,h2,h3,h4⟩:=h
 refine⟨rows,h1,h2,zaL h3 fun b cur hb he=>hw b (Array.getElem?_eq_some_iff.1 he).1 (.inr hb),fun w' hw'=>h4 w' fun b hlt hne hc=>(hw' b (by omega) hne hc).trans (hw b hlt hc)⟩
theorem zaf.below {α:Type}{P:World→List Value→α→Prop}{T:TypeId}{k n0 base:Nat}{w w2:World}{v:Value}{l:List α}(h:zaf P T k n0 base w v l)(hb:Below w.heap.size w w2):zaf P T k n0 base w2 v l:=
 h.later (fun b hlt _=>hb.block b hlt) hb.size
theorem zaf.form {α:Type}{P:World→List Value→α→Prop}{T:TypeId}{k n0 base:Nat}{w:World}{v:Value}{l:List α}(h:zaf P T k n0 base w v l):∃ a c,v= .slice a l.length c:=by
 obtain⟨rows,-,-,h3,-⟩:=h
 rcases h3.2 with ⟨rfl,h0⟩|⟨g,cap,cur,rfl,_⟩
 ·
  exact⟨none,0,by rw[h0]⟩
 ·
  exact⟨_,_,rfl⟩
theorem zaf.at {α:Type}{P:World→List Value→α→Prop}{T:TypeId}{k n0 base:Nat}{w:World}{v:Value}{l:List α}(h:zaf P T k n0 base w v l)(hl:l.length≤140737488355328){w':World}
  (hw:∀ b,b<w.heap.size→(b<n0∨base≤b)→w'.heap[b]?=w.heap[b]?):zcL P k w' v l:=by
 obtain⟨rows,h1,h2,h3,h4⟩:=h
 exact⟨rows,h1,h2,zbQ (zaL h3 fun b cur hb he=>hw b (Array.getElem?_eq_some_iff.1 he).1 (.inr hb)) hl,fun i r x hr hx=>h4 w' (fun b hlt _ hc=>hw b hlt hc) i r x hr hx⟩
theorem zaf.append' {α:Type}{P:World→List Value→α→Prop}{T:TypeId}{k n0 base:Nat}{w:World}{v:Value}{l:List α}(h:zaf P T k n0 base w v l)(hk:0<k)
  {G:Program} (t:TypeId) (z:Value) (bytes:Nat) (ht:G.underlying t=some (.slice T)) (hinfo:(G.info? T).map (fun i=>(i.zero,i.size,i.bytes))=some (some z,k,bytes)) (hzs:z.cells.size=k)
  (cells:Array Value) (hr:cells.size=k) (h1:∀ u∈cells.toList,u.oneCell'=true) (x:α)
  (hP:∀ w',(∀ b,b<w.heap.size→v.ownBlock≠some b→(b<n0∨base≤b)→w'.heap[b]?=w.heap[b]?)→P w' cells.toList x) (hlen:l.length≤1099511627776) (hby:bytes≤120) (hbase:base≤w.heap.size) :
  ∃ v' w',(Builtin.append_ #[t,t] t #[v,.slice (some ⟨w.heap.size,0,none⟩) 1 1]).run G (w.alloc (.cells cells T))= .ok v' w'∧zaf P T k n0 base w' v' (l++[x]) ∧
   (w.alloc (.cells cells T)).grownBy w' v.ownBlock∧(v'.ownBlock=v.ownBlock∨v'.ownBlock=some (w.alloc (.cells cells T)).heap.size):=by
 obtain⟨rows,g1,g2,g3,g4⟩:=h
 have hseg:Seg (w.alloc (.cells cells T)) (.slice (some ⟨w.heap.size,0,none⟩) 1 1) k 1 cells.toList:=by
  refine⟨by simp[hr],by omega,some ⟨w.heap.size,0,none⟩,1,rfl,Nat.le_refl _,by omega,by simp,fun j u hu=>⟨_,_,rfl,?_⟩⟩
  rw[Nat.zero_add,cell_of_row _ _ _ cells T (0,0) (heap_alloc_new w _)]
  simpa using hu
 have hb1:(l.length+1)*bytes≤140737488355328:=Nat.le_trans (Nat.mul_le_mul_left _ hby) (by omega)
 obtain⟨v',w',hrun,hO,hg,hat⟩:=zba (P:=G) (w.alloc (.cells cells T)) base t t T z k bytes ht hinfo hzs hk v _ l.length 1 rows.flatten cells.toList
  (World.ownsRow.alloc g3 _) hseg h1 (by omega) hb1 (by simp;omega)
 refine⟨v',w',hrun,⟨rows++[cells.toList],by simp[g1],?_,by simpa using hO,?_⟩,hg,hat⟩
 ·
  intro r hr'
  rcases List.mem_append.1 hr' with h|h
  ·
   exact g2 r h
  ·
   simp at h;subst h;simpa using hr
 ·
  intro w2 hw2
  have hsz:w.heap.size+1≤w'.heap.size:=by have:=hg.size;simpa using this
  have hold:∀ b,b<w.heap.size→v.ownBlock≠some b→(b<n0∨base≤b)→w2.heap[b]?=w.heap[b]?:=by
   intro b hlt hne hc
   have hne':v'.ownBlock≠some b:=by
    rcases hat with e|e
    ·
     rw[e];exact hne
    ·
     rw[e];intro e2;simp at e2;omega
   exact ((hw2 b (by omega) hne' hc).trans (hg.block b (by simp;omega) (fun e=>hne e.symm))).trans (Below.heap_alloc w _ b hlt)
  intro i r y hri hyi
  by_cases hil:i<l.length
  ·
   rw[List.getElem?_append_left (by omega)] at hri
   rw[List.getElem?_append_left hil] at hyi
   exact g4 w2 hold i r y hri hyi
  ·
   have hi:i=l.length:=by
    have:=(List.getElem?_eq_some_iff.1 hyi).1
    simp at this;omega
   subst hi
   rw[←g1,List.getElem?_concat_length] at hri
   rw[List.getElem?_concat_length] at hyi
   cases hri
   cases hyi
   exact hP w2 hold
theorem zaf.append {α:Type}{P:World→List Value→α→Prop}{T:TypeId}{k n0 base:Nat}{w:World}{v:Value}{l:List α}(h:zaf P T k n0 base w v l)(hk:0<k)(hn0:n0≤base)
  {G:Program} (t:TypeId) (z:Value) (bytes:Nat) (ht:G.underlying t=some (.slice T)) (hinfo:(G.info? T).map (fun i=>(i.zero,i.size,i.bytes))=some (some z,k,bytes)) (hzs:z.cells.size=k)
  (cells:Array Value) (hr:cells.size=k) (h1:∀ u∈cells.toList,u.oneCell'=true) (x:α) (nb:Nat) (hnb:∀ b,v.ownBlock=some b→b<nb) (hbn:base≤nb)
  (hP:zc8 n0 nb w fun w'=>P w' cells.toList x) (hlen:l.length≤1099511627776) (hby:bytes≤120) (hbase:base≤w.heap.size) :
  ∃ v' w',(Builtin.append_ #[t,t] t #[v,.slice (some ⟨w.heap.size,0,none⟩) 1 1]).run G (w.alloc (.cells cells T))= .ok v' w'∧zaf P T k n0 base w' v' (l++[x]) ∧
   (w.alloc (.cells cells T)).grownBy w' v.ownBlock∧(v'.ownBlock=v.ownBlock∨v'.ownBlock=some (w.alloc (.cells cells T)).heap.size):=by
 have g3:=h
 obtain⟨rows,-,-,g3,-⟩:=g3
 refine h.append' hk t z bytes ht hinfo hzs cells hr h1 x (fun w2 hold=>hP w2 fun b hlt hc=>hold b hlt ?_ (hc.imp id fun h=>Nat.le_trans hbn h)) hlen hby hbase
 intro e
 have:=hnb b e
 rcases hc with hc|hc
 ·
  have hb2:base≤b:=by
   rcases g3.2 with ⟨rfl,_⟩|⟨g,cap,cur,rfl,hb,_⟩
   ·
    simp[Value.ownBlock] at e
   ·
    simp[Value.ownBlock] at e;omega
  omega
 ·
  omega
theorem zaf.own {α:Type}{P:World→List Value→α→Prop}{T:TypeId}{k n0 base:Nat}{w:World}{v:Value}{l:List α}(h:zaf P T k n0 base w v l)(b:Nat)(e:v.ownBlock=some b):base≤b∧b<w.heap.size:=by
 obtain⟨rows,-,-,h3,-⟩:=h
 rcases h3.2 with ⟨rfl,h0⟩|⟨g,cap,cur,rfl,hb,hg,_⟩
 ·
  simp[Value.ownBlock] at e
 ·
  simp[Value.ownBlock] at e
  subst e
  exact⟨hb,(Array.getElem?_eq_some_iff.1 hg).1⟩
theorem zaf.step {α:Type}{P:World→List Value→α→Prop}{T:TypeId}{k n0 base i:Nat}{wr w1:World}{oa:Option Addr}{oc:Nat}{l:List α}(h:zaf P T k n0 base wr (.slice oa i oc) l)(hb:Below wr.heap.size wr w1)(hk:0<k)(hn0:n0≤base)(hbs:base≤wr.heap.size)(hil:l.length=i)
  {G:Program} (t:TypeId) (z:Value) (bytes:Nat) (ht:G.underlying t=some (.slice T)) (hinfo:(G.info? T).map (fun i=>(i.zero,i.size,i.bytes))=some (some z,k,bytes)) (hzs:z.cells.size=k)
  (cells:Array Value) (hr:cells.size=k) (h1:∀ u∈cells.toList,u.oneCell'=true) (x:α) (hP:zc8 n0 wr.heap.size w1 fun w'=>P w' cells.toList x) (hlen:i≤1099511627776) (hby:bytes≤120) :
  ∃ a' c' w5,(Builtin.append_ #[t,t] t #[.slice oa i oc,.slice (some ⟨w1.heap.size,0,none⟩) 1 1]).run G (w1.alloc (.cells cells T))= .ok (.slice a' (i+1) c') w5∧zaf P T k n0 base w5 (.slice a' (i+1) c') (l++[x]) ∧
   Below base wr (w1.alloc (.cells cells T))∧Below base wr w5:=by
 have hs:=hb.size
 have hB1:Below base wr (w1.alloc (.cells cells T)):=(hb.mono hbs).alloc (by omega) _
 obtain⟨v',w',hrun,hO,hg,-⟩:=(h.below hb).append hk hn0 t z bytes ht hinfo hzs cells hr h1 x wr.heap.size (fun b e=>(h.own b e).2) hbs hP (by omega) hby (by omega)
 obtain⟨a',c',rfl⟩:=hO.form
 rw[List.length_append,List.length_singleton,hil] at *
 exact⟨a',c',w',hrun,hO,hB1,hB1.grown hg (by have:=hB1.size;omega) fun q e=>(h.own q e).1⟩
theorem zaf.step' {α:Type}{P:World→List Value→α→Prop}{T:TypeId}{k n0 base i:Nat}{wr:World}{oa:Option Addr}{oc:Nat}{l:List α}(h:zaf P T k n0 base wr (.slice oa i oc) l)(hk:0<k)(hbs:base≤wr.heap.size)(hil:l.length=i)
  {G:Program} (t:TypeId) (z:Value) (bytes:Nat) (ht:G.underlying t=some (.slice T)) (hinfo:(G.info? T).map (fun i=>(i.zero,i.size,i.bytes))=some (some z,k,bytes)) (hzs:z.cells.size=k)
  (cells:Array Value) (hr:cells.size=k) (h1:∀ u∈cells.toList,u.oneCell'=true) (x:α)
  (hP:∀ w',(∀ b,b<wr.heap.size→(Value.slice oa i oc).ownBlock≠some b→(b<n0∨base≤b)→w'.heap[b]?=wr.heap[b]?)→P w' cells.toList x) (hlen:i≤1099511627776) (hby:bytes≤120) :
  ∃ a' c' w5,(Builtin.append_ #[t,t] t #[.slice oa i oc,.slice (some ⟨wr.heap.size,0,none⟩) 1 1]).run G (wr.alloc (.cells cells T))= .ok (.slice a' (i+1) c') w5∧zaf P T k n0 base w5 (.slice a' (i+1) c') (l++[x]) ∧
   Below base wr w5∧(wr.alloc (.cells cells T)).grownBy w5 (Value.slice oa i oc).ownBlock∧((Value.slice a' (i+1) c').ownBlock=(Value.slice oa i oc).ownBlock∨(Value.slice a' (i+1) c').ownBlock=some (wr.alloc (.cells cells T)).heap.size):=by
 have hB1:Below base wr (wr.alloc (.cells cells T)):=(Below.refl _ _).alloc hbs _
 obtain⟨v',w',hrun,hO,hg,hat⟩:=h.append' hk t z bytes ht hinfo hzs cells hr h1 x hP (by omega) hby (by omega)
 obtain⟨a',c',rfl⟩:=hO.form
 rw[List.length_append,List.length_singleton,hil] at *
 exact⟨a',c',w',hrun,hO,hB1.grown hg (by have:=hB1.size;omega) fun q e=>(h.own q e).1,hg,hat⟩
end
end Go.Proofs.YtpckoeicbjfnhaaGreatDoor
