/- Parts of a proof: texts of the author, merged. No condition of their own. -/
import Derived.Test.YtdpnmdkbdibkpaaGreatDoorZ01
import Derived.Test.YtdpnmdkbdibkpaaGreatDoorZ06
import Derived.Test.YtdpnmdkbdibkpaaGreatDoorZ07
import Derived.Test.YtdpnmdkbdibkpaaGreatDoorZ08
import Derived.Deep.RegionWith
import Derived.BigRegion
import Derived.StillTailTactics
import Derived.Deep.RegionHeld3
import Derived.IntWalk
import Derived.Laws.AppendOwn
import Derived.OwnWalk
import Derived.Maps.AppendAt
import Derived.OwnWalkIn
namespace Go.Proofs.YtdpnmdkbdibkpaaGreatDoor
set_option maxRecDepth 100000
set_option maxHeartbeats 16000000
section
open Go.RowKit
theorem zco (n:Nat)(h:n<256):(b8 n).toNat=n:=by simp[b8];omega
theorem zpv (w:World)(T:TypeId)(x y z:Int)(a b c:Nat)(hx:x=a)(hy:y=b)(hz:z=c)(ha:a<256)(hb:b<256)(hc:c<256) :
  zay (w.alloc (.cells #[.int .u8 x,.int .u8 y,.int .u8 z] T)) (.slice (some ⟨w.heap.size,0,none⟩) 3 3) [b8 a,b8 b,b8 c]:=
 zeZ w T _ [b8 a,b8 b,b8 c] (by simp[zgz,zco a ha,zco b hb,zco c hc,hx,hy,hz]) (by simp)
theorem bytes4 (w:World)(T:TypeId)(x y z u:Int)(a b c d:Nat)(hx:x=a)(hy:y=b)(hz:z=c)(hu:u=d)(ha:a<256)(hb:b<256)(hc:c<256)(hd:d<256) :
  zay (w.alloc (.cells #[.int .u8 x,.int .u8 y,.int .u8 z,.int .u8 u] T)) (.slice (some ⟨w.heap.size,0,none⟩) 4 4) [b8 a,b8 b,b8 c,b8 d]:=
 zeZ w T _ [b8 a,b8 b,b8 c,b8 d] (by simp[zgz,zco a ha,zco b hb,zco c hc,zco d hd,hx,hy,hz,hu]) (by simp)
theorem zcu (r:Nat)(hr:r≤2097151)(w:World) :
  Calls Tryz.prog 137 #[.int .i64 r] w fun e w'=>∃ v,zay w' v (zhB r)∧Below w.heap.size w w'∧e= .returned v:=by
 by_cases h1:1114111<r
 ·
  have HU:Hid (zhB r=[]):=by simp[Hid,zhB,h1]
  go_enter Tryz.func137,Tryz.ntmps137
  go_wp2
  go_ret
  exact⟨_,by rw[HU.out];exact zjb _,Below.refl _ _,rfl⟩
 ·
  by_cases h2:55296≤r∧r≤57343
  ·
   have HU:Hid (zhB r=[]):=by simp[Hid,zhB,h1,h2]
   obtain⟨h2,h3⟩:=h2
   go_enter Tryz.func137,Tryz.ntmps137
   go_wp2
   go_ret
   exact⟨_,by rw[HU.out];exact zjb _,Below.refl _ _,rfl⟩
  ·
   have HU:Hid (zhB r=if r<128 then [b8 r] else if r<2048 then [b8 (192+r / 64),b8 (128+r % 64)] else if r<65536 then [b8 (224+r / 4096),b8 (128+r / 64 % 64),b8 (128+r % 64)] else
     [b8 (240+r / 262144),b8 (128+r / 4096 % 64),b8 (128+r / 64 % 64),b8 (128+r % 64)]):=by simp only[Hid,zhB];rw[if_neg (by omega)]
   have h3:r≤55295∨57344≤r:=by omega
   clear h2
   by_cases h128:r<128
   ·
    clear h3
    go_enter Tryz.func137,Tryz.ntmps137
    go_wp2
    go_ret
    rw[HU.out,if_pos h128]
    exact⟨_,zeZ _ _ _ _ (by simp[zgz,zco r (by omega)]) (by simp),by (with_reducible repeat first|exact Below.refl _ _|refine pzA ?_ _|refine pzB ?_ _|refine zab ?_ _|refine Below.drew ?_),rfl⟩
   ·
    by_cases h2048:r<2048
    ·
     clear h3
     go_enter Tryz.func137,Tryz.ntmps137
     go_wp2
     go_ret
     rw[HU.out,if_neg h128,if_pos h2048]
     exact⟨_,zeZ _ _ _ _ (by simp[zgz,zco (192+r / 64) (by omega),zco (128+r % 64) (by omega)]) (by simp),by (with_reducible repeat first|exact Below.refl _ _|refine pzA ?_ _|refine pzB ?_ _|refine zab ?_ _|refine Below.drew ?_),rfl⟩
    ·
     by_cases h65536:r<65536
     ·
      rcases h3 with h3|h3
      ·
       have d0:decide ((r:Int)<0)=false:=by simp <;> omega
       have d1:decide ((1114111:Int)<(r:Int))=false:=by simp;omega
       have d2:decide ((r:Int)<128)=false:=by simp;omega
       have d3:decide ((r:Int)<2048)=false:=by simp;omega
       have d4:decide ((55296:Int)≤(r:Int))=false:=by simp;omega
       have d5:decide ((r:Int)<65536)=true:=by simp;omega
       have hb:r≤65535:=by omega
       have A:=hid h1
       have B:=hid h128
       have C:=hid h2048
       have D:=hid h3
       have E:=hid h65536
       clear h1 h128 h2048 h3 h65536 hr
       go_enter Tryz.func137,Tryz.ntmps137
       go_wp2
       go_ret
       rw[HU.out,if_neg B.out,if_neg C.out,if_pos E.out]
       exact⟨_,zpv _ _ _ _ _ _ _ _ (by omega) (by omega) (by omega) (by omega) (by omega) (by omega),by (with_reducible repeat first|exact Below.refl _ _|refine pzA ?_ _|refine pzB ?_ _|refine zab ?_ _|refine Below.drew ?_),rfl⟩
      ·
       have d0:decide ((r:Int)<0)=false:=by simp <;> omega
       have d1:decide ((1114111:Int)<(r:Int))=false:=by simp;omega
       have d2:decide ((r:Int)<128)=false:=by simp;omega
       have d3:decide ((r:Int)<2048)=false:=by simp;omega
       have d4:decide ((55296:Int)≤(r:Int))=true:=by simp;omega
       have d5:decide ((r:Int)≤57343)=false:=by simp;omega
       have d6:decide ((r:Int)<65536)=true:=by simp;omega
       have hb:r≤65535:=by omega
       have A:=hid h1
       have B:=hid h128
       have C:=hid h2048
       have D:=hid h3
       have E:=hid h65536
       clear h1 h128 h2048 h3 h65536 hr
       go_enter Tryz.func137,Tryz.ntmps137
       go_wp2
       go_ret
       rw[HU.out,if_neg B.out,if_neg C.out,if_pos E.out]
       exact⟨_,zpv _ _ _ _ _ _ _ _ (by omega) (by omega) (by omega) (by omega) (by omega) (by omega),by (with_reducible repeat first|exact Below.refl _ _|refine pzA ?_ _|refine pzB ?_ _|refine zab ?_ _|refine Below.drew ?_),rfl⟩
     ·
      have d0:decide ((r:Int)<0)=false:=by simp <;> omega
      have d1:decide ((1114111:Int)<(r:Int))=false:=by simp;omega
      have d2:decide ((r:Int)<128)=false:=by simp;omega
      have d3:decide ((r:Int)<2048)=false:=by simp;omega
      have d4:decide ((55296:Int)≤(r:Int))=true:=by simp;omega
      have d5:decide ((r:Int)≤57343)=false:=by simp;omega
      have d6:decide ((r:Int)<65536)=false:=by simp;omega
      have hb:r≤1114111:=by omega
      have A:=hid h1
      have B:=hid h128
      have C:=hid h2048
      have D:=hid h3
      have E:=hid h65536
      clear h1 h128 h2048 h3 h65536 hr
      go_enter Tryz.func137,Tryz.ntmps137
      go_wp2
      go_ret
      rw[HU.out,if_neg B.out,if_neg C.out,if_neg E.out]
      exact⟨_,bytes4 _ _ _ _ _ _ _ _ _ _ (by omega) (by omega) (by omega) (by omega) (by omega) (by omega) (by omega) (by omega),by (with_reducible repeat first|exact Below.refl _ _|refine pzA ?_ _|refine pzB ?_ _|refine zab ?_ _|refine Below.drew ?_),rfl⟩
theorem zfs (L:List UInt8)(k i x:Nat)(hi:i<k)(hk:k≤L.length):zd5 x ((L.take k).drop i)=zd5 (64*x+(L.getD i 0).toNat % 64) ((L.take k).drop (i+1)):=by
 have hl:i<(L.take k).length:=by rw[List.length_take];omega
 rw[List.drop_eq_getElem_cons hl,zd5]
 simp[List.getD,show i<L.length by omega]
theorem ze5 (L:List UInt8)(k x:Nat):zd5 x ((L.take k).drop k)=x:=by
 rw[List.drop_of_length_le (by rw[List.length_take];omega)];rfl
theorem zex (l:List UInt8)(i:Nat):(l.drop i).getD 0 0=l.getD i 0:=by simp[List.getD,List.getElem?_drop]
theorem zl5 (L:List UInt8)(k:Nat)(_hk:k≤5)(h:∀ j,1≤j→j<k→za8 L≠j)(he:k=5∨L.length<k):za8 L=0:=by
 have:=zgm L
 by_cases e:za8 L=0
 ·
  exact e
 ·
  exact absurd rfl (h (za8 L) (by omega) (by omega))
theorem zhZ {w:World}{v:Value}{l:List UInt8}(h:zay w v l)(i:Nat)(hi:i≤l.length) :
  Calls Tryz.prog 103 #[v,.int .i64 i] w fun e w'=>e= .returned (.int .i64 (za8 (l.drop i)))∧Below w.heap.size w w':=by
 obtain⟨hlen,a,cap,rfl,-,-,-,hcell⟩:=h.open
 obtain⟨n,HN⟩:∃ n,Hid (n=l.length):=⟨_,rfl⟩
 rw[←HN.out] at hcell hlen hi h ⊢
 have HCELL:=hid hcell
 clear hcell
 go_enter Tryz.func103,Tryz.ntmps103
 go_wp2
 go_loopw [5] (fun v5 wr=>∃ k:Nat,1≤k∧k≤5∧v5= .int .i64 k∧Below w.heap.size w wr∧Hid (∀ j,1≤j→j<k→za8 (l.drop i)≠j)) (fun v5 _=>5 - (intOf v5).toNat)
 case atStart=>exact⟨1,by omega,by omega,rfl,Below.refl _ _,fun j h1 h2=>absurd h1 (by omega)⟩
 case round =>
  obtain⟨k,hk1,hk2,rfl,hbel,HK⟩:=hrel
  by_cases h5:k=5∨n<i+k
  ·
   have hu:Hid (za8 (l.drop i)=0):=zl5 _ k hk2 HK.out (by rw[List.length_drop,←HN.out];omega)
   rcases h5 with h5|h5
   ·
    subst h5
    go_wp2
    go_ret
    rw[hu.out]
    exact⟨rfl,hbel⟩
   ·
    by_cases h4:k≤4
    all_goals
     go_wp2
     go_ret
     rw[hu.out]
     exact⟨rfl,hbel⟩
  ·
   have hk4:k≤4:=by omega
   have hik:i+k≤n:=by omega
   clear h5
   have hcl:=HCELL.out
   obtain⟨b,o,ha,hc0⟩:=hcl i (by omega)
   clear hcl
   have hix:=zag zaH zcw ha i (len:=n) (by omega) (cap:=cap)
   obtain⟨c,HC⟩:∃ c,Hid (c=(l.getD i 0).toNat):=⟨_,rfl⟩
   have hcb:c<256:=by rw[HC.out];exact (l.getD i 0).toNat_lt
   rw[←HC.out] at hc0
   have hc1:=hbel.cell (p:=⟨b,o+i,none⟩) (World.block_lt_of_cell? w _ hc0)
   rw[hc0] at hc1
   have HAA:=hid ha
   clear ha hc0
   rcases (show k=1∨k=2∨k=3∨k=4 by omega) with rfl|rfl|rfl|rfl
   ·
    have HU0:Hid (zeD 1 (l.drop i)=zd5 (c) (((l.drop i).take 1).drop 1)):=by simp only[Hid,zeD,zoO];rw[zex,←HC.out];rfl
    have hle:1≤(l.drop i).length:=by rw[List.length_drop,←HN.out];omega
    obtain⟨a',cap',hsl,-,hb'⟩:=h.cut HN.out i (i+1) (by omega) (by omega)
    have hsl2:∀ W,(Instr.slice 88 (.slice a n cap) (some (.int .i64 (i:Int))) (some (.int .i64 ((i:Int)+1))) none).run Tryz.prog W= .ok (.slice a' 1 cap') W:=fun W=>by have:=hsl W;simpa using this
    rw[show i+1 - i=1 by omega] at hb'
    clear hsl
    have hb2:zay wr (.slice a' 1 cap') ((l.drop i).take 1):=hb'.below hbel
    rw[show ((1:Nat):Int)=(1:Int) from rfl]
    have HLE:=hid hle
    clear hle
    go_wp2
    go_loop [6,7] (fun v6 v7=>∃ j x:Nat,1≤j∧j≤1∧x<256*64 ^ (j - 1)∧v6= .int .i64 x∧v7= .int .i64 j∧Hid (zd5 x (((l.drop i).take 1).drop j)=zeD 1 (l.drop i))) (fun _ v7=>1 - (intOf v7).toNat)
    case atStart=>exact⟨1,c,by omega,by omega,by simp;omega,by first|rfl|go_num,rfl,HU0.out.symm⟩
    case round =>
     obtain⟨j,x,hj1,hj2,hx,rfl,rfl,HX⟩:=hrel
     have hx2:x<256*64 ^ 0:=Nat.lt_of_lt_of_le hx (Nat.mul_le_mul_left _ (Nat.pow_le_pow_right (by omega) (by omega)))
     simp only[Nat.reducePow,Nat.reduceMul] at hx2
     have HXX:=hid hx
     clear hx
     by_cases hlt:j<1
     ·
      omega
     ·
      obtain rfl:j=1:=by omega
      obtain rfl:x=zeD 1 (l.drop i):=by rw[←HX.out,ze5]
      have HP:=hid (ze1 (l.drop i) 1 (by omega) (by omega) HLE.out)
      have Hx2:zeD 1 (l.drop i)≤2097151:=by omega
      obtain⟨x,HXE⟩:∃ x,Hid (x=zeD 1 (l.drop i)):=⟨_,rfl⟩
      rw[←HXE.out] at hx2 Hx2 ⊢
      clear HX HXX hlt
      go_wp2
      have hbw:Below w.heap.size w wr:=hbel
      have hb3:zay wr.drew (.slice a' 1 cap') ((l.drop i).take 1):=Seg.keep hb2 fun _ _ hu=>hu
      have hcv1:=hb3.str
      have hw:IntKind.i64.wrap ((i:Int)+1)=(i:Int)+1:=IntWalk.i64_in _ (by omega)
      have hbf:∀ w1,Below (wr.drew).heap.size (wr.drew) w1→Below w.heap.size w w1:=fun w1 hb1=>zai (Below.drew hbw) hb1 hbw.size
      have HBF:=hid hbf
      clear hbf
      by_cases hun:za8 (l.drop i)=1
      ·
       have heq:(zhB x == List.take 1 (List.drop i l))=true:=by rw[HXE.out];exact beq_iff_eq.2 (HP.out.2 hun)
       have HUN:=hid hun
       clear hun
       go_region_with (go_at_call 137;refine (zcu x Hx2 _).mono ?_;rintro e w1 ⟨v1,hv1,hbel1,rfl⟩;have hcv2:=(hb3.below hbel1).str;have hcv3:=hv1.str)
       all_goals
        go_wp2
        go_ret
        rw[HUN.out]
        have hbf:=HBF.out
        exact⟨rfl,hbf _ hbel1⟩
      ·
       have heq:(zhB x == List.take 1 (List.drop i l))=false:=by rw[HXE.out];exact beq_eq_false_iff_ne.2 fun e=>hun (HP.out.1 e)
       have HUN:=hid hun
       clear hun
       go_region_with (go_at_call 137;refine (zcu x Hx2 _).mono ?_;rintro e w1 ⟨v1,hv1,hbel1,rfl⟩;have hcv2:=(hb3.below hbel1).str;have hcv3:=hv1.str)
       all_goals
        go_wp2
        go_roundw
        case rel =>
         have hbf:=HBF.out
         refine⟨2,by omega,by omega,by first|rfl|go_num,hbf _ hbel1,fun j h1 h2=>?_⟩
         by_cases e:j=1
         ·
          subst e;exact HUN.out
         ·
          exact HK.out j h1 (by omega)
        case measure=>simp[intOf]
   ·
    have HU0:Hid (zeD 2 (l.drop i)=zd5 (c % 32) (((l.drop i).take 2).drop 1)):=by simp only[Hid,zeD,zoO];rw[zex,←HC.out];rfl
    have hle:2≤(l.drop i).length:=by rw[List.length_drop,←HN.out];omega
    obtain⟨a',cap',hsl,-,hb'⟩:=h.cut HN.out i (i+2) (by omega) (by omega)
    have hsl2:∀ W,(Instr.slice 88 (.slice a n cap) (some (.int .i64 (i:Int))) (some (.int .i64 ((i:Int)+2))) none).run Tryz.prog W= .ok (.slice a' 2 cap') W:=fun W=>by have:=hsl W;simpa using this
    rw[show i+2 - i=2 by omega] at hb'
    clear hsl
    have hb2:zay wr (.slice a' 2 cap') ((l.drop i).take 2):=hb'.below hbel
    rw[show ((2:Nat):Int)=(2:Int) from rfl]
    have HLE:=hid hle
    clear hle
    go_wp2
    go_loop [6,7] (fun v6 v7=>∃ j x:Nat,1≤j∧j≤2∧x<32*64 ^ (j - 1)∧v6= .int .i64 x∧v7= .int .i64 j∧Hid (zd5 x (((l.drop i).take 2).drop j)=zeD 2 (l.drop i))) (fun _ v7=>2 - (intOf v7).toNat)
    case atStart=>exact⟨1,c % 32,by omega,by omega,by simp;omega,by first|rfl|go_num,rfl,HU0.out.symm⟩
    case round =>
     obtain⟨j,x,hj1,hj2,hx,rfl,rfl,HX⟩:=hrel
     have hx2:x<32*64 ^ 1:=Nat.lt_of_lt_of_le hx (Nat.mul_le_mul_left _ (Nat.pow_le_pow_right (by omega) (by omega)))
     simp only[Nat.reducePow,Nat.reduceMul] at hx2
     have HXX:=hid hx
     clear hx
     by_cases hlt:j<2
     ·
      have hcl:=HCELL.out
      obtain⟨b2,o2,ha2,hd0⟩:=hcl (i+j) (by omega)
      clear hcl
      have hix2:=zeq zaH zcw ha2 i j (len:=n) (by omega) (cap:=cap)
      obtain⟨d,HD⟩:∃ d,Hid (d=(l.getD (i+j) 0).toNat):=⟨_,rfl⟩
      have hdb:d<256:=by rw[HD.out];exact (l.getD (i+j) 0).toNat_lt
      rw[←HD.out] at hd0
      have hd1:=hbel.cell (p:=⟨b2,o2+(i+j),none⟩) (World.block_lt_of_cell? w _ hd0)
      rw[hd0] at hd1
      have hb2l:b2<wr.heap.size:=World.block_lt_of_cell? wr _ hd1
      have HA2:=hid ha2
      have hstep:=hid (zfs (l.drop i) 2 j x hlt HLE.out)
      clear ha2 hd0
      go_wp2
      go_round
      case rel =>
       refine⟨j+1,64*x+d % 64,by omega,by omega,?_,by go_num,by go_num,?_⟩
       ·
        have h1:=HXX.out
        have e:j+1 - 1=(j - 1)+1:=by omega
        rw[e,Nat.pow_succ]
        omega
       ·
        rw[←HX.out,hstep.out,zcr,HD.out]
        exact hid rfl
      case measure=>simp[intOf];omega
     ·
      obtain rfl:j=2:=by omega
      obtain rfl:x=zeD 2 (l.drop i):=by rw[←HX.out,ze5]
      have HP:=hid (ze1 (l.drop i) 2 (by omega) (by omega) HLE.out)
      have Hx2:zeD 2 (l.drop i)≤2097151:=by omega
      obtain⟨x,HXE⟩:∃ x,Hid (x=zeD 2 (l.drop i)):=⟨_,rfl⟩
      rw[←HXE.out] at hx2 Hx2 ⊢
      clear HX HXX hlt
      go_wp2
      obtain⟨W2,HW2⟩:∃ W2,Hid (W2=wr.alloc (Obj.cells #[.int .i64 0,.int .i64 0,.int .i64 32,.int .i64 16,.int .i64 8] 3)):=⟨_,rfl⟩
      rw[←HW2.out]
      have hbw:Below w.heap.size w W2:=by rw[HW2.out];exact hbel.alloc hbel.size _
      have hb3:zay W2.drew (.slice a' 2 cap') ((l.drop i).take 2):=by rw[HW2.out];exact Seg.keep (hb2.below ((Below.refl _ _).alloc (Nat.le_refl _) _)) fun _ _ hu=>hu
      have hcv1:=hb3.str
      have hw:IntKind.i64.wrap ((i:Int)+2)=(i:Int)+2:=IntWalk.i64_in _ (by omega)
      have hbf:∀ w1,Below (W2.drew).heap.size (W2.drew) w1→Below w.heap.size w w1:=fun w1 hb1=>zai (Below.drew hbw) hb1 hbw.size
      have HBF:=hid hbf
      clear hbf
      by_cases hun:za8 (l.drop i)=2
      ·
       have heq:(zhB x == List.take 2 (List.drop i l))=true:=by rw[HXE.out];exact beq_iff_eq.2 (HP.out.2 hun)
       have HUN:=hid hun
       clear hun
       go_region_with (go_at_call 137;refine (zcu x Hx2 _).mono ?_;rintro e w1 ⟨v1,hv1,hbel1,rfl⟩;have hcv2:=(hb3.below hbel1).str;have hcv3:=hv1.str)
       all_goals
        go_wp2
        go_ret
        rw[HUN.out]
        have hbf:=HBF.out
        exact⟨rfl,hbf _ hbel1⟩
      ·
       have heq:(zhB x == List.take 2 (List.drop i l))=false:=by rw[HXE.out];exact beq_eq_false_iff_ne.2 fun e=>hun (HP.out.1 e)
       have HUN:=hid hun
       clear hun
       go_region_with (go_at_call 137;refine (zcu x Hx2 _).mono ?_;rintro e w1 ⟨v1,hv1,hbel1,rfl⟩;have hcv2:=(hb3.below hbel1).str;have hcv3:=hv1.str)
       all_goals
        go_wp2
        go_roundw
        case rel =>
         have hbf:=HBF.out
         refine⟨3,by omega,by omega,by first|rfl|go_num,hbf _ hbel1,fun j h1 h2=>?_⟩
         by_cases e:j=2
         ·
          subst e;exact HUN.out
         ·
          exact HK.out j h1 (by omega)
        case measure=>simp[intOf]
   ·
    have HU0:Hid (zeD 3 (l.drop i)=zd5 (c % 16) (((l.drop i).take 3).drop 1)):=by simp only[Hid,zeD,zoO];rw[zex,←HC.out];rfl
    have hle:3≤(l.drop i).length:=by rw[List.length_drop,←HN.out];omega
    obtain⟨a',cap',hsl,-,hb'⟩:=h.cut HN.out i (i+3) (by omega) (by omega)
    have hsl2:∀ W,(Instr.slice 88 (.slice a n cap) (some (.int .i64 (i:Int))) (some (.int .i64 ((i:Int)+3))) none).run Tryz.prog W= .ok (.slice a' 3 cap') W:=fun W=>by have:=hsl W;simpa using this
    rw[show i+3 - i=3 by omega] at hb'
    clear hsl
    have hb2:zay wr (.slice a' 3 cap') ((l.drop i).take 3):=hb'.below hbel
    rw[show ((3:Nat):Int)=(3:Int) from rfl]
    have HLE:=hid hle
    clear hle
    go_wp2
    go_loop [6,7] (fun v6 v7=>∃ j x:Nat,1≤j∧j≤3∧x<16*64 ^ (j - 1)∧v6= .int .i64 x∧v7= .int .i64 j∧Hid (zd5 x (((l.drop i).take 3).drop j)=zeD 3 (l.drop i))) (fun _ v7=>3 - (intOf v7).toNat)
    case atStart=>exact⟨1,c % 16,by omega,by omega,by simp;omega,by first|rfl|go_num,rfl,HU0.out.symm⟩
    case round =>
     obtain⟨j,x,hj1,hj2,hx,rfl,rfl,HX⟩:=hrel
     have hx2:x<16*64 ^ 2:=Nat.lt_of_lt_of_le hx (Nat.mul_le_mul_left _ (Nat.pow_le_pow_right (by omega) (by omega)))
     simp only[Nat.reducePow,Nat.reduceMul] at hx2
     have HXX:=hid hx
     clear hx
     by_cases hlt:j<3
     ·
      have hcl:=HCELL.out
      obtain⟨b2,o2,ha2,hd0⟩:=hcl (i+j) (by omega)
      clear hcl
      have hix2:=zeq zaH zcw ha2 i j (len:=n) (by omega) (cap:=cap)
      obtain⟨d,HD⟩:∃ d,Hid (d=(l.getD (i+j) 0).toNat):=⟨_,rfl⟩
      have hdb:d<256:=by rw[HD.out];exact (l.getD (i+j) 0).toNat_lt
      rw[←HD.out] at hd0
      have hd1:=hbel.cell (p:=⟨b2,o2+(i+j),none⟩) (World.block_lt_of_cell? w _ hd0)
      rw[hd0] at hd1
      have hb2l:b2<wr.heap.size:=World.block_lt_of_cell? wr _ hd1
      have HA2:=hid ha2
      have hstep:=hid (zfs (l.drop i) 3 j x hlt HLE.out)
      clear ha2 hd0
      go_wp2
      go_round
      case rel =>
       refine⟨j+1,64*x+d % 64,by omega,by omega,?_,by go_num,by go_num,?_⟩
       ·
        have h1:=HXX.out
        have e:j+1 - 1=(j - 1)+1:=by omega
        rw[e,Nat.pow_succ]
        omega
       ·
        rw[←HX.out,hstep.out,zcr,HD.out]
        exact hid rfl
      case measure=>simp[intOf];omega
     ·
      obtain rfl:j=3:=by omega
      obtain rfl:x=zeD 3 (l.drop i):=by rw[←HX.out,ze5]
      have HP:=hid (ze1 (l.drop i) 3 (by omega) (by omega) HLE.out)
      have Hx2:zeD 3 (l.drop i)≤2097151:=by omega
      obtain⟨x,HXE⟩:∃ x,Hid (x=zeD 3 (l.drop i)):=⟨_,rfl⟩
      rw[←HXE.out] at hx2 Hx2 ⊢
      clear HX HXX hlt
      go_wp2
      obtain⟨W2,HW2⟩:∃ W2,Hid (W2=wr.alloc (Obj.cells #[.int .i64 0,.int .i64 0,.int .i64 32,.int .i64 16,.int .i64 8] 3)):=⟨_,rfl⟩
      rw[←HW2.out]
      have hbw:Below w.heap.size w W2:=by rw[HW2.out];exact hbel.alloc hbel.size _
      have hb3:zay W2.drew (.slice a' 3 cap') ((l.drop i).take 3):=by rw[HW2.out];exact Seg.keep (hb2.below ((Below.refl _ _).alloc (Nat.le_refl _) _)) fun _ _ hu=>hu
      have hcv1:=hb3.str
      have hw:IntKind.i64.wrap ((i:Int)+3)=(i:Int)+3:=IntWalk.i64_in _ (by omega)
      have hbf:∀ w1,Below (W2.drew).heap.size (W2.drew) w1→Below w.heap.size w w1:=fun w1 hb1=>zai (Below.drew hbw) hb1 hbw.size
      have HBF:=hid hbf
      clear hbf
      by_cases hun:za8 (l.drop i)=3
      ·
       have heq:(zhB x == List.take 3 (List.drop i l))=true:=by rw[HXE.out];exact beq_iff_eq.2 (HP.out.2 hun)
       have HUN:=hid hun
       clear hun
       go_region_with (go_at_call 137;refine (zcu x Hx2 _).mono ?_;rintro e w1 ⟨v1,hv1,hbel1,rfl⟩;have hcv2:=(hb3.below hbel1).str;have hcv3:=hv1.str)
       all_goals
        go_wp2
        go_ret
        rw[HUN.out]
        have hbf:=HBF.out
        exact⟨rfl,hbf _ hbel1⟩
      ·
       have heq:(zhB x == List.take 3 (List.drop i l))=false:=by rw[HXE.out];exact beq_eq_false_iff_ne.2 fun e=>hun (HP.out.1 e)
       have HUN:=hid hun
       clear hun
       go_region_with (go_at_call 137;refine (zcu x Hx2 _).mono ?_;rintro e w1 ⟨v1,hv1,hbel1,rfl⟩;have hcv2:=(hb3.below hbel1).str;have hcv3:=hv1.str)
       all_goals
        go_wp2
        go_roundw
        case rel =>
         have hbf:=HBF.out
         refine⟨4,by omega,by omega,by first|rfl|go_num,hbf _ hbel1,fun j h1 h2=>?_⟩
         by_cases e:j=3
         ·
          subst e;exact HUN.out
         ·
          exact HK.out j h1 (by omega)
        case measure=>simp[intOf]
   ·
    have HU0:Hid (zeD 4 (l.drop i)=zd5 (c % 8) (((l.drop i).take 4).drop 1)):=by simp only[Hid,zeD,zoO];rw[zex,←HC.out];rfl
    have hle:4≤(l.drop i).length:=by rw[List.length_drop,←HN.out];omega
    obtain⟨a',cap',hsl,-,hb'⟩:=h.cut HN.out i (i+4) (by omega) (by omega)
    have hsl2:∀ W,(Instr.slice 88 (.slice a n cap) (some (.int .i64 (i:Int))) (some (.int .i64 ((i:Int)+4))) none).run Tryz.prog W= .ok (.slice a' 4 cap') W:=fun W=>by have:=hsl W;simpa using this
    rw[show i+4 - i=4 by omega] at hb'
    clear hsl
    have hb2:zay wr (.slice a' 4 cap') ((l.drop i).take 4):=hb'.below hbel
    rw[show ((4:Nat):Int)=(4:Int) from rfl]
    have HLE:=hid hle
    clear hle
    go_wp2
    go_loop [6,7] (fun v6 v7=>∃ j x:Nat,1≤j∧j≤4∧x<8*64 ^ (j - 1)∧v6= .int .i64 x∧v7= .int .i64 j∧Hid (zd5 x (((l.drop i).take 4).drop j)=zeD 4 (l.drop i))) (fun _ v7=>4 - (intOf v7).toNat)
    case atStart=>exact⟨1,c % 8,by omega,by omega,by simp;omega,by first|rfl|go_num,rfl,HU0.out.symm⟩
    case round =>
     obtain⟨j,x,hj1,hj2,hx,rfl,rfl,HX⟩:=hrel
     have hx2:x<8*64 ^ 3:=Nat.lt_of_lt_of_le hx (Nat.mul_le_mul_left _ (Nat.pow_le_pow_right (by omega) (by omega)))
     simp only[Nat.reducePow,Nat.reduceMul] at hx2
     have HXX:=hid hx
     clear hx
     by_cases hlt:j<4
     ·
      have hcl:=HCELL.out
      obtain⟨b2,o2,ha2,hd0⟩:=hcl (i+j) (by omega)
      clear hcl
      have hix2:=zeq zaH zcw ha2 i j (len:=n) (by omega) (cap:=cap)
      obtain⟨d,HD⟩:∃ d,Hid (d=(l.getD (i+j) 0).toNat):=⟨_,rfl⟩
      have hdb:d<256:=by rw[HD.out];exact (l.getD (i+j) 0).toNat_lt
      rw[←HD.out] at hd0
      have hd1:=hbel.cell (p:=⟨b2,o2+(i+j),none⟩) (World.block_lt_of_cell? w _ hd0)
      rw[hd0] at hd1
      have hb2l:b2<wr.heap.size:=World.block_lt_of_cell? wr _ hd1
      have HA2:=hid ha2
      have hstep:=hid (zfs (l.drop i) 4 j x hlt HLE.out)
      clear ha2 hd0
      go_wp2
      go_round
      case rel =>
       refine⟨j+1,64*x+d % 64,by omega,by omega,?_,by go_num,by go_num,?_⟩
       ·
        have h1:=HXX.out
        have e:j+1 - 1=(j - 1)+1:=by omega
        rw[e,Nat.pow_succ]
        omega
       ·
        rw[←HX.out,hstep.out,zcr,HD.out]
        exact hid rfl
      case measure=>simp[intOf];omega
     ·
      obtain rfl:j=4:=by omega
      obtain rfl:x=zeD 4 (l.drop i):=by rw[←HX.out,ze5]
      have HP:=hid (ze1 (l.drop i) 4 (by omega) (by omega) HLE.out)
      have Hx2:zeD 4 (l.drop i)≤2097151:=by omega
      obtain⟨x,HXE⟩:∃ x,Hid (x=zeD 4 (l.drop i)):=⟨_,rfl⟩
      rw[←HXE.out] at hx2 Hx2 ⊢
      clear HX HXX hlt
      go_wp2
      obtain⟨W2,HW2⟩:∃ W2,Hid (W2=wr.alloc (Obj.cells #[.int .i64 0,.int .i64 0,.int .i64 32,.int .i64 16,.int .i64 8] 3)):=⟨_,rfl⟩
      rw[←HW2.out]
      have hbw:Below w.heap.size w W2:=by rw[HW2.out];exact hbel.alloc hbel.size _
      have hb3:zay W2.drew (.slice a' 4 cap') ((l.drop i).take 4):=by rw[HW2.out];exact Seg.keep (hb2.below ((Below.refl _ _).alloc (Nat.le_refl _) _)) fun _ _ hu=>hu
      have hcv1:=hb3.str
      have hw:IntKind.i64.wrap ((i:Int)+4)=(i:Int)+4:=IntWalk.i64_in _ (by omega)
      have hbf:∀ w1,Below (W2.drew).heap.size (W2.drew) w1→Below w.heap.size w w1:=fun w1 hb1=>zai (Below.drew hbw) hb1 hbw.size
      have HBF:=hid hbf
      clear hbf
      by_cases hun:za8 (l.drop i)=4
      ·
       have heq:(zhB x == List.take 4 (List.drop i l))=true:=by rw[HXE.out];exact beq_iff_eq.2 (HP.out.2 hun)
       have HUN:=hid hun
       clear hun
       go_region_with (go_at_call 137;refine (zcu x Hx2 _).mono ?_;rintro e w1 ⟨v1,hv1,hbel1,rfl⟩;have hcv2:=(hb3.below hbel1).str;have hcv3:=hv1.str)
       all_goals
        go_wp2
        go_ret
        rw[HUN.out]
        have hbf:=HBF.out
        exact⟨rfl,hbf _ hbel1⟩
      ·
       have heq:(zhB x == List.take 4 (List.drop i l))=false:=by rw[HXE.out];exact beq_eq_false_iff_ne.2 fun e=>hun (HP.out.1 e)
       have HUN:=hid hun
       clear hun
       go_region_with (go_at_call 137;refine (zcu x Hx2 _).mono ?_;rintro e w1 ⟨v1,hv1,hbel1,rfl⟩;have hcv2:=(hb3.below hbel1).str;have hcv3:=hv1.str)
       all_goals
        go_wp2
        go_roundw
        case rel =>
         have hbf:=HBF.out
         refine⟨5,by omega,by omega,by first|rfl|go_num,hbf _ hbel1,fun j h1 h2=>?_⟩
         by_cases e:j=4
         ·
          subst e;exact HUN.out
         ·
          exact HK.out j h1 (by omega)
        case measure=>simp[intOf]
end
section
open Go.RowKit
theorem zkv {w:World}{v:Value}{l:List UInt8}(h:zay w v l) :
  Calls Tryz.prog 73 #[v,.int .i64 l.length] w fun e w'=>(∃ k:Nat,e= .returned (.tuple #[.int .i64 (zbf l),.int .i64 k]))∧Below w.heap.size w w':=by
 obtain⟨hlen,a,cap,rfl,-,-,-,-⟩:=h.open
 obtain⟨n,HN⟩:∃ n,Hid (n=l.length):=⟨_,rfl⟩
 rw[←HN.out] at hlen h ⊢
 go_enter Tryz.func73,Tryz.ntmps73
 go_wp2
 go_loopw [6,7] (fun v6 v7 wr=>∃ k x:Nat,k≤n∧x≤k∧v6= .int .i64 k∧v7= .int .i64 x∧Below w.heap.size w wr∧Hid (k+zbf (l.drop k)=zbf l)) (fun v6 _ _=>n - (intOf v6).toNat)
 case atStart=>exact⟨0,0,by omega,by omega,rfl,rfl,Below.refl _ _,by simp[Hid]⟩
 case round =>
  obtain⟨k,x,hk,hx,rfl,rfl,hbel,HK⟩:=hrel
  obtain⟨m,HM⟩:∃ m,Hid (m=za8 (l.drop k)):=⟨_,rfl⟩
  have hm:k+m≤n:=by
   have:=(zgm (l.drop k)).1
   rw[List.length_drop,←HN.out,←HM.out] at this
   omega
  have hs:=zgJ (l.drop k)
  rw[←HM.out] at hs
  have HS:=hid hs
  clear hs
  by_cases hm0:m=0
  ·
   subst hm0
   go_wp2_with (go_at_call 103;refine (zhZ (h.below hbel) k (by rw[←HN.out];exact hk)).mono ?_;rintro e w1 ⟨rfl,hb1⟩;rw[←HM.out])
   refine bodyPost_ret (v:=.tuple #[.int .i64 k,.int .i64 x]) (by simp[results,Tryz.results73,go_sem]) rfl ⟨⟨x,?_⟩,zai hbel hb1 hbel.size⟩
   have e:zbf l=k:=by rw[←HK.out,HS.out];simp
   rw[e]
  ·
   have hm1:((m:Int) == 0)=false:=by simp;omega
   have HM0:=hid hm0
   have hmp:0<m:=by omega
   clear hm0
   go_wp2_with (go_at_call 103;refine (zhZ (h.below hbel) k (by rw[←HN.out];exact hk)).mono ?_;rintro e w1 ⟨rfl,hb1⟩;rw[←HM.out])
   go_roundw
   case rel =>
    refine⟨k+m,x+1,by omega,by omega,by go_num,by go_num,zai hbel hb1 hbel.size,?_⟩
    rw[←HK.out,HS.out,if_neg HM0.out,List.drop_drop,Nat.add_assoc]
    exact hid rfl
   case measure=>simp[intOf];omega
theorem zkw {w:World}{v:Value}{l:List UInt8}(h:zay w v l) :
  Calls Tryz.prog 37 #[v] w fun e w'=>e= .returned (.bool (decide (zbf l=l.length)))∧Below w.heap.size w w':=by
 obtain⟨hlen,a,cap,rfl,-,-,-,-⟩:=h.open
 go_enter Tryz.func37,Tryz.ntmps37
 go_wp2_with (go_at_call 73;refine (zkv h).mono ?_;rintro e w' ⟨⟨k,rfl⟩,hb⟩)
 go_ret
 refine⟨zcG ?_,hb⟩
 show Value.bool ((zbf l:Int) == (l.length:Int))=_
 congr 1
 rw[Bool.eq_iff_iff]
 simp
 omega
end
section
open Go.RowKit
theorem zlm {α:Type}(l:List α)(z:α){k:Nat}(hk:k<l.length):l.getD k z∈l:=by
 have:l.getD k z=l[k]:=by simp[List.getD,hk]
 rw[this];exact List.getElem_mem hk
end
section
open Go.RowKit
end
section
open Go.RowKit
end
section
open Go.RowKit
end
section
open Go.RowKit
end
section
open Go.RowKit
theorem zft {P:Program}(w:World)(base:Nat)(t ty e:TypeId)(i:TypeInfo)(size:Nat)(ht:P.underlying t=some (.slice e))(hi:P.info? e=some i)
  (v:Value) (n:Nat) (xs:List Value) (hown:w.ownsRow base e size v n xs) (c:Nat):(Builtin.append_ #[t,t] ty #[v,.slice none 0 c]).run P w= .ok v w:=by
 rcases hown.2 with ⟨rfl,rfl⟩|⟨g,cap,cur,rfl,_,_,hnc,_⟩
 ·
  simp[Builtin.append_,run_underlying ht,sizeOf,typeInfo,hi,Builtin.lenOf,Builtin.firstCells]
 ·
  simp[Builtin.append_,run_underlying ht,sizeOf,typeInfo,hi,Builtin.lenOf,Builtin.firstCells,hnc,storeCells]
theorem zbb {P:Program}(w:World)(base:Nat)(t ty e:TypeId)(z:Value)(size bytes:Nat)(ht:P.underlying t=some (.slice e))(hinfo:(P.info? e).map (fun i=>(i.zero,i.size,i.bytes))=some (some z,size,bytes))
  (hzs:z.cells.size=size) (hsz:0<size) (v x:Value) (n m:Nat) (xs news:List Value) (hown:w.ownsRow base e size v n xs) (hx:Seg w x size m news) (h1:∀ u∈news,u.oneCell'=true)
  (h63:n+m≤140737488355328) (hbytes:(n+m)*bytes≤140737488355328) (hbase:base≤w.heap.size) :
  ∃ v' w',(Builtin.append_ #[t,t] ty #[v,x]).run P w= .ok v' w'∧w'.ownsRow base e size v' (n+m) (xs++news)∧w.grownBy w' v.ownBlock∧(v'.ownBlock=v.ownBlock∨v'.ownBlock=some w.heap.size):=by
 obtain⟨i,hi,hz,hsize,hby⟩:=info_parts hinfo
 obtain⟨hl,hm,a,cap,rfl,hmc,hcap,hnil,hc⟩:=hx
 cases a with
 | none =>
  have hm0:m=0:=by have:=hnil rfl;omega
  subst hm0
  have hn:news=[]:=List.eq_nil_of_length_eq_zero (by simpa using hl)
  subst hn
  exact⟨v,w,zft w base t ty e i size ht hi v n xs hown cap,by simpa using hown,World.grownBy.refl w _,.inl rfl⟩
 | some ad =>
  have hcells:∀ j u,news[j]?=some u→w.cell? (ad.add j)=some u:=fun j u hu=>by
   obtain⟨b,o,e',h⟩:=hc j u hu
   cases e'
   rw[zdy];exact h
  obtain⟨v',w',hrun,h2,h3,-,h5⟩:=run_append_own_at (P:=P) w base t ty e i z size bytes ht hi hz hsize hby hzs hsz v n xs hown ad m cap news hl hcells h1 (by unfold maxLen;omega) hbytes hbase
  exact⟨v',w',hrun,h2,h3,h5⟩
theorem zee {P:Program}{w:World}{o:Oper}{a:Act}{K:Act→World→Prop}{Q:Exit→Act→World→Prop}(s x:Operand)(t:TypeId)
  (ho:o.op= .call { callee:=.builtin .append,args:=#[s,x],argTypes:=#[t,t] }) (v xv:Value) (hs:a.eval s=v) (hx:a.eval x=xv) {v':Value} {w':World}
  (hr:(Builtin.append_ #[t,t] o.type #[v,xv]).run P w= .ok v' w') (h:K (a.put o.dst v') w'):o.wp P a w K Q:=by
 unfold Oper.wp execOp
 simp only[ho,resolve,invoke,builtin,Sem.run_bind,Sem.run_pure,Result.andThen_ok,List.map_toArray,List.map_cons,List.map_nil,hs,hx,hr]
 exact h
theorem zaf {P:Program}{w:World}{ops:Array Oper}{rest:List Oper}{o:Oper}{a:Act}{Q:Exit→Act→World→Prop}(hgd:o.guard=none)(s x:Operand)(t:TypeId)
  (ho:o.op= .call { callee:=.builtin .append,args:=#[s,x],argTypes:=#[t,t] }) (v xv:Value) (hs:a.eval s=v) (hx:a.eval x=xv) {v':Value} {w':World}
  (hr:(Builtin.append_ #[t,t] o.type #[v,xv]).run P w= .ok v' w') (h:wpList P ops Q rest (a.put o.dst v') w'):wpList P ops Q (o::rest) a w:=
 wpList_plain hgd fun _ hK=>zee s x t ho v xv hs hx hr (hK _ _ h)
theorem zaQ {P:Program}{w:World}{ops:Array Oper}{o:Oper}{a:Act}{K:Act→World→Prop}{Q:Exit→Act→World→Prop}{E:Prop}(hgd:o.guard=none)(s x:Operand)(t:TypeId)
  (ho:o.op= .call { callee:=.builtin .append,args:=#[s,x],argTypes:=#[t,t] }) (v xv:Value) (hs:a.eval s=v) (hx:a.eval x=xv) {v':Value} {w':World}
  (hr:(Builtin.append_ #[t,t] o.type #[v,xv]).run P w= .ok v' w') (h:K (a.put o.dst v') w') :
  if Region.wanted o (yielded ops a.tmps)=true then Oper.wp P o a w K Q else E:=by
 have hw:Region.wanted o (yielded ops a.tmps)=true:=by simp[Region.wanted,hgd]
 rw[if_pos hw]
 exact zee s x t ho v xv hs hx hr h
theorem zbo {w:World}{base size n:Nat}{e:TypeId}{v:Value}{xs:List Value}(h:w.ownsRow base e size v n xs)(hn:n≤140737488355328):Seg w v size n xs:=by
 refine⟨h.1,hn,?_⟩
 rcases h.2 with ⟨rfl,rfl⟩|⟨g,cap,cur,rfl,hb,hg,hnc,hcm,hcs,ht⟩
 ·
  exact⟨none,0,rfl,Nat.le_refl _,by omega,fun _=>rfl,fun j u hu=>by
   have:=h.1
   simp at this
   subst this
   simp at hu⟩
 ·
  refine⟨some ⟨g,0,none⟩,cap,rfl,hnc,hcm,by simp,fun j u hu=>⟨g,0,rfl,?_⟩⟩
  have:=h.cells (g:=g) rfl j u hu
  rwa [zdy] at this
end
section
open Go.RowKit
end
section
open Go.RowKit Go.Shelf
attribute [local go_sem] Oper.semAt_some
end
end Go.Proofs.YtdpnmdkbdibkpaaGreatDoor
