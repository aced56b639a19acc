/- Parts of a proof: texts of the author, merged. No condition of their own. -/
import Derived.Test.YtpckoeicbjfnhaaGreatDoorZ01
import Derived.Test.YtpckoeicbjfnhaaGreatDoorZ06
import Derived.Test.YtpckoeicbjfnhaaGreatDoorZ08
import Derived.Test.YtpckoeicbjfnhaaGreatDoorZ09
import Derived.Deep.RegionWith
import Derived.BigRegion
import Derived.StillTailTactics
import Derived.Deep.RegionHeld3
import Derived.IntWalk
namespace Go.Proofs.YtpckoeicbjfnhaaGreatDoor
set_option maxRecDepth 100000
set_option maxHeartbeats 16000000
section
open Go.RowKit
theorem zcG (n:Nat)(h:n<256):(b8 n).toNat=n:=by simp[b8];omega
theorem zrs (w:World)(T:TypeId)(x y z:Int)(a b c:Nat)(hx:x=a)(hy:y=b)(hz:z=c)(ha:a<256)(hb:b<256)(hc:c<256) :
  zaj (w.alloc (.cells #[.int .u8 x,.int .u8 y,.int .u8 z] T)) (.slice (some ⟨w.heap.size,0,none⟩) 3 3) [b8 a,b8 b,b8 c]:=
 zfB w T _ [b8 a,b8 b,b8 c] (by simp[ze3,zcG a ha,zcG b hb,zcG c hc,hx,hy,hz]) (by simp)
theorem bytes4 (w:World)(T:TypeId)(x y z u:Int)(a b c d:Nat)(hx:x=a)(hy:y=b)(hz:z=c)(hu:u=d)(ha:a<256)(hb:b<256)(hc:c<256)(hd:d<256) :
  zaj (w.alloc (.cells #[.int .u8 x,.int .u8 y,.int .u8 z,.int .u8 u] T)) (.slice (some ⟨w.heap.size,0,none⟩) 4 4) [b8 a,b8 b,b8 c,b8 d]:=
 zfB w T _ [b8 a,b8 b,b8 c,b8 d] (by simp[ze3,zcG a ha,zcG b hb,zcG c hc,zcG d hd,hx,hy,hz,hu]) (by simp)
theorem zcM (r:Nat)(hr:r≤2097151)(w:World) :
  Calls Tryz.prog 214 #[.int .i64 r] w fun e w'=>∃ v,zaj w' v (zij r)∧Below w.heap.size w w'∧e= .returned v:=by
 by_cases h1:1114111<r
 ·
  have HU:Hid (zij r=[]):=by simp[Hid,zij,h1]
  go_enter Tryz.func214,Tryz.ntmps214
  go_wp2
  go_ret
  exact⟨_,by rw[HU.out];exact zkm _,Below.refl _ _,rfl⟩
 ·
  by_cases h2:55296≤r∧r≤57343
  ·
   have HU:Hid (zij r=[]):=by simp[Hid,zij,h1,h2]
   obtain⟨h2,h3⟩:=h2
   go_enter Tryz.func214,Tryz.ntmps214
   go_wp2
   go_ret
   exact⟨_,by rw[HU.out];exact zkm _,Below.refl _ _,rfl⟩
  ·
   have HU:Hid (zij r=if r<128 then [b8 r] else if r<2048 then [b8 (192+r / 64),b8 (128+r % 64)] else if r<65536 then [b8 (224+r / 4096),b8 (128+r / 64 % 64),b8 (128+r % 64)] else
     [b8 (240+r / 262144),b8 (128+r / 4096 % 64),b8 (128+r / 64 % 64),b8 (128+r % 64)]):=by simp only[Hid,zij];rw[if_neg (by omega)]
   have h3:r≤55295∨57344≤r:=by omega
   clear h2
   by_cases h128:r<128
   ·
    clear h3
    go_enter Tryz.func214,Tryz.ntmps214
    go_wp2
    go_ret
    rw[HU.out,if_pos h128]
    exact⟨_,zfB _ _ _ _ (by simp[ze3,zcG r (by omega)]) (by simp),by (with_reducible repeat first|exact Below.refl _ _|refine pzA ?_ _|refine pzB ?_ _|refine zab ?_ _|refine Below.drew ?_),rfl⟩
   ·
    by_cases h2048:r<2048
    ·
     clear h3
     go_enter Tryz.func214,Tryz.ntmps214
     go_wp2
     go_ret
     rw[HU.out,if_neg h128,if_pos h2048]
     exact⟨_,zfB _ _ _ _ (by simp[ze3,zcG (192+r / 64) (by omega),zcG (128+r % 64) (by omega)]) (by simp),by (with_reducible repeat first|exact Below.refl _ _|refine pzA ?_ _|refine pzB ?_ _|refine zab ?_ _|refine Below.drew ?_),rfl⟩
    ·
     by_cases h65536:r<65536
     ·
      rcases h3 with h3|h3
      ·
       have d0:decide ((r:Int)<0)=false:=by simp <;> omega
       have d1:decide ((1114111:Int)<(r:Int))=false:=by simp;omega
       have d2:decide ((r:Int)<128)=false:=by simp;omega
       have d3:decide ((r:Int)<2048)=false:=by simp;omega
       have d4:decide ((55296:Int)≤(r:Int))=false:=by simp;omega
       have d5:decide ((r:Int)<65536)=true:=by simp;omega
       have hb:r≤65535:=by omega
       have A:=hid h1
       have B:=hid h128
       have C:=hid h2048
       have D:=hid h3
       have E:=hid h65536
       clear h1 h128 h2048 h3 h65536 hr
       go_enter Tryz.func214,Tryz.ntmps214
       go_wp2
       go_ret
       rw[HU.out,if_neg B.out,if_neg C.out,if_pos E.out]
       exact⟨_,zrs _ _ _ _ _ _ _ _ (by omega) (by omega) (by omega) (by omega) (by omega) (by omega),by (with_reducible repeat first|exact Below.refl _ _|refine pzA ?_ _|refine pzB ?_ _|refine zab ?_ _|refine Below.drew ?_),rfl⟩
      ·
       have d0:decide ((r:Int)<0)=false:=by simp <;> omega
       have d1:decide ((1114111:Int)<(r:Int))=false:=by simp;omega
       have d2:decide ((r:Int)<128)=false:=by simp;omega
       have d3:decide ((r:Int)<2048)=false:=by simp;omega
       have d4:decide ((55296:Int)≤(r:Int))=true:=by simp;omega
       have d5:decide ((r:Int)≤57343)=false:=by simp;omega
       have d6:decide ((r:Int)<65536)=true:=by simp;omega
       have hb:r≤65535:=by omega
       have A:=hid h1
       have B:=hid h128
       have C:=hid h2048
       have D:=hid h3
       have E:=hid h65536
       clear h1 h128 h2048 h3 h65536 hr
       go_enter Tryz.func214,Tryz.ntmps214
       go_wp2
       go_ret
       rw[HU.out,if_neg B.out,if_neg C.out,if_pos E.out]
       exact⟨_,zrs _ _ _ _ _ _ _ _ (by omega) (by omega) (by omega) (by omega) (by omega) (by omega),by (with_reducible repeat first|exact Below.refl _ _|refine pzA ?_ _|refine pzB ?_ _|refine zab ?_ _|refine Below.drew ?_),rfl⟩
     ·
      have d0:decide ((r:Int)<0)=false:=by simp <;> omega
      have d1:decide ((1114111:Int)<(r:Int))=false:=by simp;omega
      have d2:decide ((r:Int)<128)=false:=by simp;omega
      have d3:decide ((r:Int)<2048)=false:=by simp;omega
      have d4:decide ((55296:Int)≤(r:Int))=true:=by simp;omega
      have d5:decide ((r:Int)≤57343)=false:=by simp;omega
      have d6:decide ((r:Int)<65536)=false:=by simp;omega
      have hb:r≤1114111:=by omega
      have A:=hid h1
      have B:=hid h128
      have C:=hid h2048
      have D:=hid h3
      have E:=hid h65536
      clear h1 h128 h2048 h3 h65536 hr
      go_enter Tryz.func214,Tryz.ntmps214
      go_wp2
      go_ret
      rw[HU.out,if_neg B.out,if_neg C.out,if_neg E.out]
      exact⟨_,bytes4 _ _ _ _ _ _ _ _ _ _ (by omega) (by omega) (by omega) (by omega) (by omega) (by omega) (by omega) (by omega),by (with_reducible repeat first|exact Below.refl _ _|refine pzA ?_ _|refine pzB ?_ _|refine zab ?_ _|refine Below.drew ?_),rfl⟩
theorem zgg (L:List UInt8)(k i x:Nat)(hi:i<k)(hk:k≤L.length):zei x ((L.take k).drop i)=zei (64*x+(L.getD i 0).toNat % 64) ((L.take k).drop (i+1)):=by
 have hl:i<(L.take k).length:=by rw[List.length_take];omega
 rw[List.drop_eq_getElem_cons hl,zei]
 simp[List.getD,show i<L.length by omega]
theorem zfM (L:List UInt8)(k x:Nat):zei x ((L.take k).drop k)=x:=by
 rw[List.drop_of_length_le (by rw[List.length_take];omega)];rfl
theorem zeS (l:List UInt8)(i:Nat):(l.drop i).getD 0 0=l.getD i 0:=by simp[List.getD,List.getElem?_drop]
theorem znt (L:List UInt8)(k:Nat)(_hk:k≤5)(h:∀ j,1≤j→j<k→za3 L≠j)(he:k=5∨L.length<k):za3 L=0:=by
 have:=zg7 L
 by_cases e:za3 L=0
 ·
  exact e
 ·
  exact absurd rfl (h (za3 L) (by omega) (by omega))
theorem ziS {w:World}{v:Value}{l:List UInt8}(h:zaj w v l)(i:Nat)(hi:i≤l.length) :
  Calls Tryz.prog 174 #[v,.int .i64 i] w fun e w'=>e= .returned (.int .i64 (za3 (l.drop i)))∧Below w.heap.size w w':=by
 obtain⟨hlen,a,cap,rfl,-,-,-,hcell⟩:=h.open
 obtain⟨n,HN⟩:∃ n,Hid (n=l.length):=⟨_,rfl⟩
 rw[←HN.out] at hcell hlen hi h ⊢
 have HCELL:=hid hcell
 clear hcell
 go_enter Tryz.func174,Tryz.ntmps174
 go_wp2
 go_loopw [5] (fun v5 wr=>∃ k:Nat,1≤k∧k≤5∧v5= .int .i64 k∧Below w.heap.size w wr∧Hid (∀ j,1≤j→j<k→za3 (l.drop i)≠j)) (fun v5 _=>5 - (intOf v5).toNat)
 case atStart=>exact⟨1,by omega,by omega,rfl,Below.refl _ _,fun j h1 h2=>absurd h1 (by omega)⟩
 case round =>
  obtain⟨k,hk1,hk2,rfl,hbel,HK⟩:=hrel
  by_cases h5:k=5∨n<i+k
  ·
   have hu:Hid (za3 (l.drop i)=0):=znt _ k hk2 HK.out (by rw[List.length_drop,←HN.out];omega)
   rcases h5 with h5|h5
   ·
    subst h5
    go_wp2
    go_ret
    rw[hu.out]
    exact⟨rfl,hbel⟩
   ·
    by_cases h4:k≤4
    all_goals
     go_wp2
     go_ret
     rw[hu.out]
     exact⟨rfl,hbel⟩
  ·
   have hk4:k≤4:=by omega
   have hik:i+k≤n:=by omega
   clear h5
   have hcl:=HCELL.out
   obtain⟨b,o,ha,hc0⟩:=hcl i (by omega)
   clear hcl
   have hix:=zad zao zbr ha i (len:=n) (by omega) (cap:=cap)
   obtain⟨c,HC⟩:∃ c,Hid (c=(l.getD i 0).toNat):=⟨_,rfl⟩
   have hcb:c<256:=by rw[HC.out];exact (l.getD i 0).toNat_lt
   rw[←HC.out] at hc0
   have hc1:=hbel.cell (p:=⟨b,o+i,none⟩) (World.block_lt_of_cell? w _ hc0)
   rw[hc0] at hc1
   have HAA:=hid ha
   clear ha hc0
   rcases (show k=1∨k=2∨k=3∨k=4 by omega) with rfl|rfl|rfl|rfl
   ·
    have HU0:Hid (ze4 1 (l.drop i)=zei (c) (((l.drop i).take 1).drop 1)):=by simp only[Hid,ze4,zqD];rw[zeS,←HC.out];rfl
    have hle:1≤(l.drop i).length:=by rw[List.length_drop,←HN.out];omega
    obtain⟨a',cap',hsl,-,hb'⟩:=h.cut HN.out i (i+1) (by omega) (by omega)
    have hsl2:∀ W,(Instr.slice 47 (.slice a n cap) (some (.int .i64 (i:Int))) (some (.int .i64 ((i:Int)+1))) none).run Tryz.prog W= .ok (.slice a' 1 cap') W:=fun W=>by have:=hsl W;simpa using this
    rw[show i+1 - i=1 by omega] at hb'
    clear hsl
    have hb2:zaj wr (.slice a' 1 cap') ((l.drop i).take 1):=hb'.below hbel
    rw[show ((1:Nat):Int)=(1:Int) from rfl]
    have HLE:=hid hle
    clear hle
    go_wp2
    go_loop [6,7] (fun v6 v7=>∃ j x:Nat,1≤j∧j≤1∧x<256*64 ^ (j - 1)∧v6= .int .i64 x∧v7= .int .i64 j∧Hid (zei x (((l.drop i).take 1).drop j)=ze4 1 (l.drop i))) (fun _ v7=>1 - (intOf v7).toNat)
    case atStart=>exact⟨1,c,by omega,by omega,by simp;omega,by first|rfl|go_num,rfl,HU0.out.symm⟩
    case round =>
     obtain⟨j,x,hj1,hj2,hx,rfl,rfl,HX⟩:=hrel
     have hx2:x<256*64 ^ 0:=Nat.lt_of_lt_of_le hx (Nat.mul_le_mul_left _ (Nat.pow_le_pow_right (by omega) (by omega)))
     simp only[Nat.reducePow,Nat.reduceMul] at hx2
     have HXX:=hid hx
     clear hx
     by_cases hlt:j<1
     ·
      omega
     ·
      obtain rfl:j=1:=by omega
      obtain rfl:x=ze4 1 (l.drop i):=by rw[←HX.out,zfM]
      have HP:=hid (zfH (l.drop i) 1 (by omega) (by omega) HLE.out)
      have Hx2:ze4 1 (l.drop i)≤2097151:=by omega
      obtain⟨x,HXE⟩:∃ x,Hid (x=ze4 1 (l.drop i)):=⟨_,rfl⟩
      rw[←HXE.out] at hx2 Hx2 ⊢
      clear HX HXX hlt
      go_wp2
      have hbw:Below w.heap.size w wr:=hbel
      have hb3:zaj wr.drew (.slice a' 1 cap') ((l.drop i).take 1):=Seg.keep hb2 fun _ _ hu=>hu
      have hcv1:=hb3.str
      have hw:IntKind.i64.wrap ((i:Int)+1)=(i:Int)+1:=IntWalk.i64_in _ (by omega)
      have hbf:∀ w1,Below (wr.drew).heap.size (wr.drew) w1→Below w.heap.size w w1:=fun w1 hb1=>zaf (Below.drew hbw) hb1 hbw.size
      have HBF:=hid hbf
      clear hbf
      by_cases hun:za3 (l.drop i)=1
      ·
       have heq:(zij x == List.take 1 (List.drop i l))=true:=by rw[HXE.out];exact beq_iff_eq.2 (HP.out.2 hun)
       have HUN:=hid hun
       clear hun
       go_region_with (go_at_call 214;refine (zcM x Hx2 _).mono ?_;rintro e w1 ⟨v1,hv1,hbel1,rfl⟩;have hcv2:=(hb3.below hbel1).str;have hcv3:=hv1.str)
       all_goals
        go_wp2
        go_ret
        rw[HUN.out]
        have hbf:=HBF.out
        exact⟨rfl,hbf _ hbel1⟩
      ·
       have heq:(zij x == List.take 1 (List.drop i l))=false:=by rw[HXE.out];exact beq_eq_false_iff_ne.2 fun e=>hun (HP.out.1 e)
       have HUN:=hid hun
       clear hun
       go_region_with (go_at_call 214;refine (zcM x Hx2 _).mono ?_;rintro e w1 ⟨v1,hv1,hbel1,rfl⟩;have hcv2:=(hb3.below hbel1).str;have hcv3:=hv1.str)
       all_goals
        go_wp2
        go_roundw
        case rel =>
         have hbf:=HBF.out
         refine⟨2,by omega,by omega,by first|rfl|go_num,hbf _ hbel1,fun j h1 h2=>?_⟩
         by_cases e:j=1
         ·
          subst e;exact HUN.out
         ·
          exact HK.out j h1 (by omega)
        case measure=>simp[intOf]
   ·
    have HU0:Hid (ze4 2 (l.drop i)=zei (c % 32) (((l.drop i).take 2).drop 1)):=by simp only[Hid,ze4,zqD];rw[zeS,←HC.out];rfl
    have hle:2≤(l.drop i).length:=by rw[List.length_drop,←HN.out];omega
    obtain⟨a',cap',hsl,-,hb'⟩:=h.cut HN.out i (i+2) (by omega) (by omega)
    have hsl2:∀ W,(Instr.slice 47 (.slice a n cap) (some (.int .i64 (i:Int))) (some (.int .i64 ((i:Int)+2))) none).run Tryz.prog W= .ok (.slice a' 2 cap') W:=fun W=>by have:=hsl W;simpa using this
    rw[show i+2 - i=2 by omega] at hb'
    clear hsl
    have hb2:zaj wr (.slice a' 2 cap') ((l.drop i).take 2):=hb'.below hbel
    rw[show ((2:Nat):Int)=(2:Int) from rfl]
    have HLE:=hid hle
    clear hle
    go_wp2
    go_loop [6,7] (fun v6 v7=>∃ j x:Nat,1≤j∧j≤2∧x<32*64 ^ (j - 1)∧v6= .int .i64 x∧v7= .int .i64 j∧Hid (zei x (((l.drop i).take 2).drop j)=ze4 2 (l.drop i))) (fun _ v7=>2 - (intOf v7).toNat)
    case atStart=>exact⟨1,c % 32,by omega,by omega,by simp;omega,by first|rfl|go_num,rfl,HU0.out.symm⟩
    case round =>
     obtain⟨j,x,hj1,hj2,hx,rfl,rfl,HX⟩:=hrel
     have hx2:x<32*64 ^ 1:=Nat.lt_of_lt_of_le hx (Nat.mul_le_mul_left _ (Nat.pow_le_pow_right (by omega) (by omega)))
     simp only[Nat.reducePow,Nat.reduceMul] at hx2
     have HXX:=hid hx
     clear hx
     by_cases hlt:j<2
     ·
      have hcl:=HCELL.out
      obtain⟨b2,o2,ha2,hd0⟩:=hcl (i+j) (by omega)
      clear hcl
      have hix2:=zeM zao zbr ha2 i j (len:=n) (by omega) (cap:=cap)
      obtain⟨d,HD⟩:∃ d,Hid (d=(l.getD (i+j) 0).toNat):=⟨_,rfl⟩
      have hdb:d<256:=by rw[HD.out];exact (l.getD (i+j) 0).toNat_lt
      rw[←HD.out] at hd0
      have hd1:=hbel.cell (p:=⟨b2,o2+(i+j),none⟩) (World.block_lt_of_cell? w _ hd0)
      rw[hd0] at hd1
      have hb2l:b2<wr.heap.size:=World.block_lt_of_cell? wr _ hd1
      have HA2:=hid ha2
      have hstep:=hid (zgg (l.drop i) 2 j x hlt HLE.out)
      clear ha2 hd0
      go_wp2
      go_round
      case rel =>
       refine⟨j+1,64*x+d % 64,by omega,by omega,?_,by go_num,by go_num,?_⟩
       ·
        have h1:=HXX.out
        have e:j+1 - 1=(j - 1)+1:=by omega
        rw[e,Nat.pow_succ]
        omega
       ·
        rw[←HX.out,hstep.out,zcJ,HD.out]
        exact hid rfl
      case measure=>simp[intOf];omega
     ·
      obtain rfl:j=2:=by omega
      obtain rfl:x=ze4 2 (l.drop i):=by rw[←HX.out,zfM]
      have HP:=hid (zfH (l.drop i) 2 (by omega) (by omega) HLE.out)
      have Hx2:ze4 2 (l.drop i)≤2097151:=by omega
      obtain⟨x,HXE⟩:∃ x,Hid (x=ze4 2 (l.drop i)):=⟨_,rfl⟩
      rw[←HXE.out] at hx2 Hx2 ⊢
      clear HX HXX hlt
      go_wp2
      obtain⟨W2,HW2⟩:∃ W2,Hid (W2=wr.alloc (Obj.cells #[.int .i64 0,.int .i64 0,.int .i64 32,.int .i64 16,.int .i64 8] 3)):=⟨_,rfl⟩
      rw[←HW2.out]
      have hbw:Below w.heap.size w W2:=by rw[HW2.out];exact hbel.alloc hbel.size _
      have hb3:zaj W2.drew (.slice a' 2 cap') ((l.drop i).take 2):=by rw[HW2.out];exact Seg.keep (hb2.below ((Below.refl _ _).alloc (Nat.le_refl _) _)) fun _ _ hu=>hu
      have hcv1:=hb3.str
      have hw:IntKind.i64.wrap ((i:Int)+2)=(i:Int)+2:=IntWalk.i64_in _ (by omega)
      have hbf:∀ w1,Below (W2.drew).heap.size (W2.drew) w1→Below w.heap.size w w1:=fun w1 hb1=>zaf (Below.drew hbw) hb1 hbw.size
      have HBF:=hid hbf
      clear hbf
      by_cases hun:za3 (l.drop i)=2
      ·
       have heq:(zij x == List.take 2 (List.drop i l))=true:=by rw[HXE.out];exact beq_iff_eq.2 (HP.out.2 hun)
       have HUN:=hid hun
       clear hun
       go_region_with (go_at_call 214;refine (zcM x Hx2 _).mono ?_;rintro e w1 ⟨v1,hv1,hbel1,rfl⟩;have hcv2:=(hb3.below hbel1).str;have hcv3:=hv1.str)
       all_goals
        go_wp2
        go_ret
        rw[HUN.out]
        have hbf:=HBF.out
        exact⟨rfl,hbf _ hbel1⟩
      ·
       have heq:(zij x == List.take 2 (List.drop i l))=false:=by rw[HXE.out];exact beq_eq_false_iff_ne.2 fun e=>hun (HP.out.1 e)
       have HUN:=hid hun
       clear hun
       go_region_with (go_at_call 214;refine (zcM x Hx2 _).mono ?_;rintro e w1 ⟨v1,hv1,hbel1,rfl⟩;have hcv2:=(hb3.below hbel1).str;have hcv3:=hv1.str)
       all_goals
        go_wp2
        go_roundw
        case rel =>
         have hbf:=HBF.out
         refine⟨3,by omega,by omega,by first|rfl|go_num,hbf _ hbel1,fun j h1 h2=>?_⟩
         by_cases e:j=2
         ·
          subst e;exact HUN.out
         ·
          exact HK.out j h1 (by omega)
        case measure=>simp[intOf]
   ·
    have HU0:Hid (ze4 3 (l.drop i)=zei (c % 16) (((l.drop i).take 3).drop 1)):=by simp only[Hid,ze4,zqD];rw[zeS,←HC.out];rfl
    have hle:3≤(l.drop i).length:=by rw[List.length_drop,←HN.out];omega
    obtain⟨a',cap',hsl,-,hb'⟩:=h.cut HN.out i (i+3) (by omega) (by omega)
    have hsl2:∀ W,(Instr.slice 47 (.slice a n cap) (some (.int .i64 (i:Int))) (some (.int .i64 ((i:Int)+3))) none).run Tryz.prog W= .ok (.slice a' 3 cap') W:=fun W=>by have:=hsl W;simpa using this
    rw[show i+3 - i=3 by omega] at hb'
    clear hsl
    have hb2:zaj wr (.slice a' 3 cap') ((l.drop i).take 3):=hb'.below hbel
    rw[show ((3:Nat):Int)=(3:Int) from rfl]
    have HLE:=hid hle
    clear hle
    go_wp2
    go_loop [6,7] (fun v6 v7=>∃ j x:Nat,1≤j∧j≤3∧x<16*64 ^ (j - 1)∧v6= .int .i64 x∧v7= .int .i64 j∧Hid (zei x (((l.drop i).take 3).drop j)=ze4 3 (l.drop i))) (fun _ v7=>3 - (intOf v7).toNat)
    case atStart=>exact⟨1,c % 16,by omega,by omega,by simp;omega,by first|rfl|go_num,rfl,HU0.out.symm⟩
    case round =>
     obtain⟨j,x,hj1,hj2,hx,rfl,rfl,HX⟩:=hrel
     have hx2:x<16*64 ^ 2:=Nat.lt_of_lt_of_le hx (Nat.mul_le_mul_left _ (Nat.pow_le_pow_right (by omega) (by omega)))
     simp only[Nat.reducePow,Nat.reduceMul] at hx2
     have HXX:=hid hx
     clear hx
     by_cases hlt:j<3
     ·
      have hcl:=HCELL.out
      obtain⟨b2,o2,ha2,hd0⟩:=hcl (i+j) (by omega)
      clear hcl
      have hix2:=zeM zao zbr ha2 i j (len:=n) (by omega) (cap:=cap)
      obtain⟨d,HD⟩:∃ d,Hid (d=(l.getD (i+j) 0).toNat):=⟨_,rfl⟩
      have hdb:d<256:=by rw[HD.out];exact (l.getD (i+j) 0).toNat_lt
      rw[←HD.out] at hd0
      have hd1:=hbel.cell (p:=⟨b2,o2+(i+j),none⟩) (World.block_lt_of_cell? w _ hd0)
      rw[hd0] at hd1
      have hb2l:b2<wr.heap.size:=World.block_lt_of_cell? wr _ hd1
      have HA2:=hid ha2
      have hstep:=hid (zgg (l.drop i) 3 j x hlt HLE.out)
      clear ha2 hd0
      go_wp2
      go_round
      case rel =>
       refine⟨j+1,64*x+d % 64,by omega,by omega,?_,by go_num,by go_num,?_⟩
       ·
        have h1:=HXX.out
        have e:j+1 - 1=(j - 1)+1:=by omega
        rw[e,Nat.pow_succ]
        omega
       ·
        rw[←HX.out,hstep.out,zcJ,HD.out]
        exact hid rfl
      case measure=>simp[intOf];omega
     ·
      obtain rfl:j=3:=by omega
      obtain rfl:x=ze4 3 (l.drop i):=by rw[←HX.out,zfM]
      have HP:=hid (zfH (l.drop i) 3 (by omega) (by omega) HLE.out)
      have Hx2:ze4 3 (l.drop i)≤2097151:=by omega
      obtain⟨x,HXE⟩:∃ x,Hid (x=ze4 3 (l.drop i)):=⟨_,rfl⟩
      rw[←HXE.out] at hx2 Hx2 ⊢
      clear HX HXX hlt
      go_wp2
      obtain⟨W2,HW2⟩:∃ W2,Hid (W2=wr.alloc (Obj.cells #[.int .i64 0,.int .i64 0,.int .i64 32,.int .i64 16,.int .i64 8] 3)):=⟨_,rfl⟩
      rw[←HW2.out]
      have hbw:Below w.heap.size w W2:=by rw[HW2.out];exact hbel.alloc hbel.size _
      have hb3:zaj W2.drew (.slice a' 3 cap') ((l.drop i).take 3):=by rw[HW2.out];exact Seg.keep (hb2.below ((Below.refl _ _).alloc (Nat.le_refl _) _)) fun _ _ hu=>hu
      have hcv1:=hb3.str
      have hw:IntKind.i64.wrap ((i:Int)+3)=(i:Int)+3:=IntWalk.i64_in _ (by omega)
      have hbf:∀ w1,Below (W2.drew).heap.size (W2.drew) w1→Below w.heap.size w w1:=fun w1 hb1=>zaf (Below.drew hbw) hb1 hbw.size
      have HBF:=hid hbf
      clear hbf
      by_cases hun:za3 (l.drop i)=3
      ·
       have heq:(zij x == List.take 3 (List.drop i l))=true:=by rw[HXE.out];exact beq_iff_eq.2 (HP.out.2 hun)
       have HUN:=hid hun
       clear hun
       go_region_with (go_at_call 214;refine (zcM x Hx2 _).mono ?_;rintro e w1 ⟨v1,hv1,hbel1,rfl⟩;have hcv2:=(hb3.below hbel1).str;have hcv3:=hv1.str)
       all_goals
        go_wp2
        go_ret
        rw[HUN.out]
        have hbf:=HBF.out
        exact⟨rfl,hbf _ hbel1⟩
      ·
       have heq:(zij x == List.take 3 (List.drop i l))=false:=by rw[HXE.out];exact beq_eq_false_iff_ne.2 fun e=>hun (HP.out.1 e)
       have HUN:=hid hun
       clear hun
       go_region_with (go_at_call 214;refine (zcM x Hx2 _).mono ?_;rintro e w1 ⟨v1,hv1,hbel1,rfl⟩;have hcv2:=(hb3.below hbel1).str;have hcv3:=hv1.str)
       all_goals
        go_wp2
        go_roundw
        case rel =>
         have hbf:=HBF.out
         refine⟨4,by omega,by omega,by first|rfl|go_num,hbf _ hbel1,fun j h1 h2=>?_⟩
         by_cases e:j=3
         ·
          subst e;exact HUN.out
         ·
          exact HK.out j h1 (by omega)
        case measure=>simp[intOf]
   ·
    have HU0:Hid (ze4 4 (l.drop i)=zei (c % 8) (((l.drop i).take 4).drop 1)):=by simp only[Hid,ze4,zqD];rw[zeS,←HC.out];rfl
    have hle:4≤(l.drop i).length:=by rw[List.length_drop,←HN.out];omega
    obtain⟨a',cap',hsl,-,hb'⟩:=h.cut HN.out i (i+4) (by omega) (by omega)
    have hsl2:∀ W,(Instr.slice 47 (.slice a n cap) (some (.int .i64 (i:Int))) (some (.int .i64 ((i:Int)+4))) none).run Tryz.prog W= .ok (.slice a' 4 cap') W:=fun W=>by have:=hsl W;simpa using this
    rw[show i+4 - i=4 by omega] at hb'
    clear hsl
    have hb2:zaj wr (.slice a' 4 cap') ((l.drop i).take 4):=hb'.below hbel
    rw[show ((4:Nat):Int)=(4:Int) from rfl]
    have HLE:=hid hle
    clear hle
    go_wp2
    go_loop [6,7] (fun v6 v7=>∃ j x:Nat,1≤j∧j≤4∧x<8*64 ^ (j - 1)∧v6= .int .i64 x∧v7= .int .i64 j∧Hid (zei x (((l.drop i).take 4).drop j)=ze4 4 (l.drop i))) (fun _ v7=>4 - (intOf v7).toNat)
    case atStart=>exact⟨1,c % 8,by omega,by omega,by simp;omega,by first|rfl|go_num,rfl,HU0.out.symm⟩
    case round =>
     obtain⟨j,x,hj1,hj2,hx,rfl,rfl,HX⟩:=hrel
     have hx2:x<8*64 ^ 3:=Nat.lt_of_lt_of_le hx (Nat.mul_le_mul_left _ (Nat.pow_le_pow_right (by omega) (by omega)))
     simp only[Nat.reducePow,Nat.reduceMul] at hx2
     have HXX:=hid hx
     clear hx
     by_cases hlt:j<4
     ·
      have hcl:=HCELL.out
      obtain⟨b2,o2,ha2,hd0⟩:=hcl (i+j) (by omega)
      clear hcl
      have hix2:=zeM zao zbr ha2 i j (len:=n) (by omega) (cap:=cap)
      obtain⟨d,HD⟩:∃ d,Hid (d=(l.getD (i+j) 0).toNat):=⟨_,rfl⟩
      have hdb:d<256:=by rw[HD.out];exact (l.getD (i+j) 0).toNat_lt
      rw[←HD.out] at hd0
      have hd1:=hbel.cell (p:=⟨b2,o2+(i+j),none⟩) (World.block_lt_of_cell? w _ hd0)
      rw[hd0] at hd1
      have hb2l:b2<wr.heap.size:=World.block_lt_of_cell? wr _ hd1
      have HA2:=hid ha2
      have hstep:=hid (zgg (l.drop i) 4 j x hlt HLE.out)
      clear ha2 hd0
      go_wp2
      go_round
      case rel =>
       refine⟨j+1,64*x+d % 64,by omega,by omega,?_,by go_num,by go_num,?_⟩
       ·
        have h1:=HXX.out
        have e:j+1 - 1=(j - 1)+1:=by omega
        rw[e,Nat.pow_succ]
        omega
       ·
        rw[←HX.out,hstep.out,zcJ,HD.out]
        exact hid rfl
      case measure=>simp[intOf];omega
     ·
      obtain rfl:j=4:=by omega
      obtain rfl:x=ze4 4 (l.drop i):=by rw[←HX.out,zfM]
      have HP:=hid (zfH (l.drop i) 4 (by omega) (by omega) HLE.out)
      have Hx2:ze4 4 (l.drop i)≤2097151:=by omega
      obtain⟨x,HXE⟩:∃ x,Hid (x=ze4 4 (l.drop i)):=⟨_,rfl⟩
      rw[←HXE.out] at hx2 Hx2 ⊢
      clear HX HXX hlt
      go_wp2
      obtain⟨W2,HW2⟩:∃ W2,Hid (W2=wr.alloc (Obj.cells #[.int .i64 0,.int .i64 0,.int .i64 32,.int .i64 16,.int .i64 8] 3)):=⟨_,rfl⟩
      rw[←HW2.out]
      have hbw:Below w.heap.size w W2:=by rw[HW2.out];exact hbel.alloc hbel.size _
      have hb3:zaj W2.drew (.slice a' 4 cap') ((l.drop i).take 4):=by rw[HW2.out];exact Seg.keep (hb2.below ((Below.refl _ _).alloc (Nat.le_refl _) _)) fun _ _ hu=>hu
      have hcv1:=hb3.str
      have hw:IntKind.i64.wrap ((i:Int)+4)=(i:Int)+4:=IntWalk.i64_in _ (by omega)
      have hbf:∀ w1,Below (W2.drew).heap.size (W2.drew) w1→Below w.heap.size w w1:=fun w1 hb1=>zaf (Below.drew hbw) hb1 hbw.size
      have HBF:=hid hbf
      clear hbf
      by_cases hun:za3 (l.drop i)=4
      ·
       have heq:(zij x == List.take 4 (List.drop i l))=true:=by rw[HXE.out];exact beq_iff_eq.2 (HP.out.2 hun)
       have HUN:=hid hun
       clear hun
       go_region_with (go_at_call 214;refine (zcM x Hx2 _).mono ?_;rintro e w1 ⟨v1,hv1,hbel1,rfl⟩;have hcv2:=(hb3.below hbel1).str;have hcv3:=hv1.str)
       all_goals
        go_wp2
        go_ret
        rw[HUN.out]
        have hbf:=HBF.out
        exact⟨rfl,hbf _ hbel1⟩
      ·
       have heq:(zij x == List.take 4 (List.drop i l))=false:=by rw[HXE.out];exact beq_eq_false_iff_ne.2 fun e=>hun (HP.out.1 e)
       have HUN:=hid hun
       clear hun
       go_region_with (go_at_call 214;refine (zcM x Hx2 _).mono ?_;rintro e w1 ⟨v1,hv1,hbel1,rfl⟩;have hcv2:=(hb3.below hbel1).str;have hcv3:=hv1.str)
       all_goals
        go_wp2
        go_roundw
        case rel =>
         have hbf:=HBF.out
         refine⟨5,by omega,by omega,by first|rfl|go_num,hbf _ hbel1,fun j h1 h2=>?_⟩
         by_cases e:j=4
         ·
          subst e;exact HUN.out
         ·
          exact HK.out j h1 (by omega)
        case measure=>simp[intOf]
end
section
open Go.RowKit
theorem zlH {w:World}{v:Value}{l:List UInt8}(h:zaj w v l) :
  Calls Tryz.prog 118 #[v,.int .i64 l.length] w fun e w'=>(∃ k:Nat,e= .returned (.tuple #[.int .i64 (zaS l),.int .i64 k]))∧Below w.heap.size w w':=by
 obtain⟨hlen,a,cap,rfl,-,-,-,-⟩:=h.open
 obtain⟨n,HN⟩:∃ n,Hid (n=l.length):=⟨_,rfl⟩
 rw[←HN.out] at hlen h ⊢
 go_enter Tryz.func118,Tryz.ntmps118
 go_wp2
 go_loopw [6,7] (fun v6 v7 wr=>∃ k x:Nat,k≤n∧x≤k∧v6= .int .i64 k∧v7= .int .i64 x∧Below w.heap.size w wr∧Hid (k+zaS (l.drop k)=zaS l)) (fun v6 _ _=>n - (intOf v6).toNat)
 case atStart=>exact⟨0,0,by omega,by omega,rfl,rfl,Below.refl _ _,by simp[Hid]⟩
 case round =>
  obtain⟨k,x,hk,hx,rfl,rfl,hbel,HK⟩:=hrel
  obtain⟨m,HM⟩:∃ m,Hid (m=za3 (l.drop k)):=⟨_,rfl⟩
  have hm:k+m≤n:=by
   have:=(zg7 (l.drop k)).1
   rw[List.length_drop,←HN.out,←HM.out] at this
   omega
  have hs:=zht (l.drop k)
  rw[←HM.out] at hs
  have HS:=hid hs
  clear hs
  by_cases hm0:m=0
  ·
   subst hm0
   go_wp2_with (go_at_call 174;refine (ziS (h.below hbel) k (by rw[←HN.out];exact hk)).mono ?_;rintro e w1 ⟨rfl,hb1⟩;rw[←HM.out])
   refine bodyPost_ret (v:=.tuple #[.int .i64 k,.int .i64 x]) (by simp[results,Tryz.results118,go_sem]) rfl ⟨⟨x,?_⟩,zaf hbel hb1 hbel.size⟩
   have e:zaS l=k:=by rw[←HK.out,HS.out];simp
   rw[e]
  ·
   have hm1:((m:Int) == 0)=false:=by simp;omega
   have HM0:=hid hm0
   have hmp:0<m:=by omega
   clear hm0
   go_wp2_with (go_at_call 174;refine (ziS (h.below hbel) k (by rw[←HN.out];exact hk)).mono ?_;rintro e w1 ⟨rfl,hb1⟩;rw[←HM.out])
   go_roundw
   case rel =>
    refine⟨k+m,x+1,by omega,by omega,by go_num,by go_num,zaf hbel hb1 hbel.size,?_⟩
    rw[←HK.out,HS.out,if_neg HM0.out,List.drop_drop,Nat.add_assoc]
    exact hid rfl
   case measure=>simp[intOf];omega
theorem zlI {w:World}{v:Value}{l:List UInt8}(h:zaj w v l) :
  Calls Tryz.prog 81 #[v] w fun e w'=>e= .returned (.bool (decide (zaS l=l.length)))∧Below w.heap.size w w':=by
 obtain⟨hlen,a,cap,rfl,-,-,-,-⟩:=h.open
 go_enter Tryz.func81,Tryz.ntmps81
 go_wp2_with (go_at_call 118;refine (zlH h).mono ?_;rintro e w' ⟨⟨k,rfl⟩,hb⟩)
 go_ret
 refine⟨zcT ?_,hb⟩
 show Value.bool ((zaS l:Int) == (l.length:Int))=_
 congr 1
 rw[Bool.eq_iff_iff]
 simp
 omega
end
section
open Go.RowKit
theorem zfN {α:Type}(l:List α)(z:α){k:Nat}(hk:k<l.length):l.getD k z∈l:=by
 have:l.getD k z=l[k]:=by simp[List.getD,hk]
 rw[this];exact List.getElem_mem hk
theorem zkF {w w1 w2:World}(h:Below w.heap.size w w1){r:Option Nat}(hg:w1.grownBy w2 r):w.grownBy w2 r:=
 ⟨hg.os.trans h.os,hg.tape.trans h.tape,hg.output.trans h.output,Nat.le_trans h.size hg.size,fun k hk hr=>(hg.block k (Nat.lt_of_lt_of_le hk h.size) hr).trans (h.block k hk)⟩
structure Chk (w0:World)(cb:Nat)(sv:Value)(w:World):Prop where
 le:w0.heap.size≤cb
 below:Below w0.heap.size w0 w
 blk:∃ dd:Int,Blk w cb [sv,.int .i64 dd] 206
theorem Chk.later {w0:World}{cb:Nat}{sv:Value}{w w':World}(h:Chk w0 cb sv w)(hb:Below w.heap.size w w'):Chk w0 cb sv w':=
 ⟨h.le,h.below.trans (hb.mono h.below.size),let ⟨dd,hd⟩:=h.blk;⟨dd,hd.below hb⟩⟩
def MsgC (w0:World)(cb:Nat)(sv:Value)(s:List Mes)(d:Nat):Prop:=
 ∀ (m depth fr:Nat) (zf zd zm:Int) (w:World) (v:Value) (l:List UInt8),zf=fr→zd=depth→zm=depth+d→m<s.length→Chk w0 cb sv w→zaj w0 v l→fr+l.length≤140737488355328→depth+d≤1000 →
  Calls Tryz.prog 122 #[.pointer (some ⟨cb,0,none⟩),.int .i64 m,v,.int .i64 zf,.int .i64 zd,.int .i64 zm] w fun e w' =>
   e= .returned (.tuple #[.int .i64 (if (zfJ s d m l).2=0 then 0 else fr+(zfJ s d m l).1:Nat),.int .u8 (zfJ s d m l).2])∧Chk w0 cb sv w'∧w.grownBy w' (some cb)
def ValP (w0:World)(cb:Nat)(sv:Value)(fr:Nat)(x:Nat × Nat)(w:World)(e:Ending)(w':World):Prop:=
 (∃ p:Nat,e= .returned (.tuple #[.int .i64 p,.int .u8 x.2])∧(x.2≠0→p=fr+x.1))∧Chk w0 cb sv w'∧w.grownBy w' (some cb)
theorem zfj {w0 w:World}{cb:Nat}{sv v:Value}(m depth fr:Nat)(r:Rec)(hC:Chk w0 cb sv w)(most:Int) :
  Calls Tryz.prog 176 #[.pointer (some ⟨cb,0,none⟩),.int .i64 m,zcL r (-1) false,v,.int .i64 fr,.int .i64 depth,.int .i64 most] w
   (ValP w0 cb sv fr (0,0) w):=by
 go_enter Tryz.func176,Tryz.ntmps176
 unfold zcL
 go_wp2
 go_ret2
 refine⟨⟨0,rfl,fun h=>absurd rfl h⟩,hC.later ((Below.refl _ _).alloc (Nat.le_refl _) _),(World.grownBy_alloc _ _ _)⟩
theorem zgh {w0 w:World}{cb:Nat}{sv v:Value}{s:List Mes}(hS:zal w0 sv s)(hs:zar s=true)(d m depth fr:Nat)(hm:m<s.length){l:List UInt8}(hv:zaj w0 v l)
  (hl:fr+l.length≤140737488355328) (hd:depth+d≤1000) (hrec:d≠0→MsgC w0 cb sv s (d - 1)) (r:Rec) (h1:r.start<r.at') (h2:r.at'≤r.to) (h3:r.to≤l.length)
  (k:Nat) (hk:k<(s.getD m .zero).fields.length) (run:Bool) (hrun:run=true→zai ((s.getD m .zero).fields.getD k .zero).kind=true) (hC:Chk w0 cb sv w) :
  Calls Tryz.prog 176 #[.pointer (some ⟨cb,0,none⟩),.int .i64 m,zcL r k run,v,.int .i64 fr,.int .i64 depth,.int .i64 ((depth:Int)+(d:Int))] w
   (ValP w0 cb sv fr (zjE (zlx s d) (decide (d=0)) (s.getD m .zero).fields l (r,(k:Int),run,0)) w):=by
 obtain⟨dd,hblk⟩:=hC.blk
 obtain⟨hslen,sa,scap,rfl,hat⟩:=hS.open
 obtain⟨sb,so,fv,rfl,hnm,c0,c1,hfat⟩:=hat m hm
 clear hat
 obtain⟨hflen,fa,fcap,rfl,hf⟩:=hfat.open
 obtain⟨fb,fo,rfl,hok,g0,g1,g2,g3,g4,g5⟩:=hf k hk
 clear hf
 obtain⟨f,HF⟩:∃ f,Hid (f=(s.getD m .zero).fields.getD k .zero):=⟨_,rfl⟩
 rw[←HF.out] at hok g0 g1 g2 g3 g4 g5 hrun
 have hof:=zdp hs m hm f (by rw[HF.out];exact zfN _ _ hk)
 obtain⟨n,HN⟩:∃ n,Hid (n=(s.getD m .zero).fields.length):=⟨_,rfl⟩
 rw[←HN.out] at hk hflen c1
 obtain⟨sn,HSN⟩:∃ sn,Hid (sn=s.length):=⟨_,rfl⟩
 rw[←HSN.out] at hslen hm hblk
 obtain⟨hvl,va,vcap,rfl,-,-,-,-⟩:=hv.open
 obtain⟨ln,HL⟩:∃ ln,Hid (ln=l.length):=⟨_,rfl⟩
 rw[←HL.out] at hv hl h3 hvl ⊢
 obtain⟨pa,pcap,hps,-,hpb⟩:=hv.cut HL.out r.at' r.to h2 h3
 obtain⟨f1,f2,f3,f4,f5,f6⟩:=f
 simp only at g0 g1 g2 g3 g4 g5 hof hrun
 have hk0:=zaa hC.below
 replace c1:=hk0 _ _ c1
 replace g0:=hk0 _ _ g0
 replace g1:=hk0 _ _ g1
 replace g2:=hk0 _ _ g2
 replace g3:=hk0 _ _ g3
 replace g4:=hk0 _ _ g4
 replace g5:=hk0 _ _ g5
 clear hk0 c0
 have l1:=World.block_lt_of_cell? w _ c1
 have l2:=World.block_lt_of_cell? w _ g1
 have k0:=hblk.cell 0 _ rfl
 have lb:=hblk.lt
 simp only at l1 l2
 obtain⟨r1,r2,r3,r4,r5⟩:=r
 simp only at h1 h2 h3 hps hpb
 have hval:zjE (zlx s d) (decide (d=0)) (s.getD m .zero).fields l (⟨r1,r2,r3,r4,r5⟩,(k:Int),run,0) =
   if run=true then (r3,(zaK (zaH f3) (zct l r4 r5)).2) else
   if f3=15 then (if zaS (zct l r4 r5)=(zct l r4 r5).length then (0,0) else (r3,7)) else
   if f3=17 then (if decide (d=0)=true then (r3,8) else (r4+(zlx s d f6.toNat (zct l r4 r5)).1,(zlx s d f6.toNat (zct l r4 r5)).2)) else (0,0):=by
  unfold zjE
  rw[if_neg (by show ¬ ((k:Int)<0);omega)]
  simp only[Int.toNat_natCast]
  rw[←HF.out]
 obtain⟨x,HX⟩:∃ x,Hid (x=zjE (zlx s d) (decide (d=0)) (s.getD m .zero).fields l (⟨r1,r2,r3,r4,r5⟩,(k:Int),run,0)):=⟨_,rfl⟩
 rw[←HX.out] at hval ⊢
 have HVAL:=hid hval
 clear hval HX
 unfold zcL
 go_enter Tryz.func176,Tryz.ntmps176
 go_wp2
 have HV:=hid (Blk.new w [.int .i64 r1,.int .i64 r2,.int .i64 r3,.int .i64 r4,.int .i64 r5,.int .i64 k,.bool run] 212)
 obtain⟨W1,HW1⟩:∃ W1,Hid (W1=w.alloc (.cells #[.int .i64 r1,.int .i64 r2,.int .i64 r3,.int .i64 r4,.int .i64 r5,.int .i64 k,.bool run] 212)):=⟨_,rfl⟩
 have HB1:Hid (Below w.heap.size w W1):=by rw[HW1.out];exact (Below.refl _ _).alloc (Nat.le_refl _) _
 have hk1:=zaa HB1.out
 have HV':Hid (Blk W1 w.heap.size [.int .i64 r1,.int .i64 r2,.int .i64 r3,.int .i64 r4,.int .i64 r5,.int .i64 k,.bool run] 212):=by rw[HW1.out];exact HV.out
 clear HV
 replace c1:=hk1 _ _ c1
 replace g0:=hk1 _ _ g0
 replace g1:=hk1 _ _ g1
 replace g2:=hk1 _ _ g2
 replace g3:=hk1 _ _ g3
 replace g4:=hk1 _ _ g4
 replace g5:=hk1 _ _ g5
 replace k0:=hk1 _ _ k0
 have hz1:W1.heap.size=w.heap.size+1:=by rw[HW1.out];simp
 rw[←HW1.out]
 obtain⟨vb,HVB⟩:∃ vb,Hid (vb=w.heap.size):=⟨_,rfl⟩
 rw[←HVB.out] at HV' hz1 l1 l2 lb ⊢
 have HZ:=hid hz1
 clear hz1 hk1
 have x2:=HV'.out.cell 2 _ rfl
 have x3:=HV'.out.cell 3 _ rfl
 have x4:=HV'.out.cell 4 _ rfl
 have x5:=HV'.out.cell 5 _ rfl
 have x6:=HV'.out.cell 6 _ rfl
 have l1':sb<W1.heap.size:=by rw[HZ.out];omega
 have l2':fb<W1.heap.size:=by rw[HZ.out];omega
 have lb':cb<W1.heap.size:=by rw[HZ.out];omega
 have lv':vb<W1.heap.size:=by rw[HZ.out];omega
 have w1:IntKind.i64.wrap ((fr:Int)+(r3:Int))=fr+r3:=IntWalk.i64_in _ (by omega)
 clear HVB
 go_region_held3 (fun w'=>w'.cell? ⟨cb,0,none⟩=some (.slice (some ⟨sb,so,none⟩) sn scap)∧w'.cell? ⟨sb,so+m*2+1,none⟩=some (.slice (some ⟨fb,fo,none⟩) n fcap)∧w'.cell? ⟨fb,fo+k*6,none⟩=some (.string f1)∧w'.cell? ⟨fb,fo+k*6+1,none⟩=some (.int .i64 f2)∧w'.cell? ⟨fb,fo+k*6+2,none⟩=some (.int .i64 f3)∧w'.cell? ⟨fb,fo+k*6+3,none⟩=some (.bool f4)∧w'.cell? ⟨fb,fo+k*6+4,none⟩=some (.bool f5)∧w'.cell? ⟨fb,fo+k*6+5,none⟩=some (.int .i64 f6)∧w'.cell? ⟨vb,2,none⟩=some (.int .i64 r3)∧w'.cell? ⟨vb,3,none⟩=some (.int .i64 r4)∧w'.cell? ⟨vb,4,none⟩=some (.int .i64 r5)∧w'.cell? ⟨vb,5,none⟩=some (.int .i64 k)) (first|(with_reducible exact⟨k0,c1,g0,g1,g2,g3,g4,g5,x2,x3,x4,x5⟩)|go_keep) (fail)
 obtain⟨W2,HW2⟩:∃ W2,Hid (W2=(W1.alloc (.cells #[.string f1,.int .i64 f2,.int .i64 f3,.bool f4,.bool f5,.int .i64 f6] 73)).drew):=⟨_,rfl⟩
 have HF2:=hid (Blk.new W1 [.string f1,.int .i64 f2,.int .i64 f3,.bool f4,.bool f5,.int .i64 f6] 73)
 have HB2:Hid (Below W1.heap.size W1 W2):=by rw[HW2.out];exact ((Below.refl _ _).alloc (Nat.le_refl _) _).drew
 have HF3:Hid (Blk W2 W1.heap.size [.string f1,.int .i64 f2,.int .i64 f3,.bool f4,.bool f5,.int .i64 f6] 73):=by rw[HW2.out];exact HF2.out
 have HV2:Hid (Blk W2 vb [.int .i64 r1,.int .i64 r2,.int .i64 r3,.int .i64 r4,.int .i64 r5,.int .i64 k,.bool run] 212):=HV'.out.below HB2.out
 have HC2:=hid (hC.later (HB1.out.trans (HB2.out.mono HB1.out.size)))
 have HB3:=hid (HB1.out.trans (HB2.out.mono HB1.out.size))
 have HBP:Hid (zaj W2 (.slice pa (r5 - r4) pcap) (zct l r4 r5)):=hpb.keep (zaa HC2.out.below)
 have HPB:=hid hpb
 have HPL:Hid ((zct l r4 r5).length=r5 - r4):=zqE l r4 r5 h2 (by have:=HL.out;omega)
 rw[←HW2.out]
 clear HF2 HW2 HB2 hpb k0 c1 g0 g1 g2 g3 g4 g5 x2 x3 x4 x5 x6 l1 l2 lb l1' l2' lb' lv' hv hblk HV'
 obtain⟨fx,HFX⟩:∃ fx,Hid (fx=W1.heap.size):=⟨_,rfl⟩
 rw[←HFX.out] at HF3 ⊢
 have x6:=HV2.out.cell 6 _ rfl
 have y2:=HF3.out.cell 2 _ rfl
 have HR:=hid hrun
 have HOF:=hid hof
 clear hrun hof
 cases run with
 | true =>
  obtain rfl:x=(r3,(zaK (zaH f3) (zct l r4 r5)).2):=by rw[HVAL.out,if_pos rfl]
  go_wp2_with (go_at_call 216;refine (zoO HBP.out f3 (HR.out rfl)).mono ?_;rintro e w3 ⟨rfl,hb3⟩)
  go_ret2
  exact⟨⟨fr+r3,by simp,fun _=>rfl⟩,HC2.out.later hb3,zbg (HB3.out.trans (hb3.mono HB3.out.size)) _⟩
 | false =>
  by_cases h15:f3=15
  ·
   subst h15
   by_cases hu:zaS (zct l r4 r5)=(zct l r4 r5).length
   ·
    obtain rfl:x=(0,0):=by rw[HVAL.out,if_neg (by decide),if_pos rfl,if_pos hu]
    have HU:Hid (decide (zaS (zct l r4 r5)=(zct l r4 r5).length)=true):=decide_eq_true hu
    clear hu
    go_wp2_with fail
    refine (zhv HBP.out).mono ?_
    rintro e w3 ⟨rfl,rfl⟩
    rw[HU.out]
    go_wp2
    go_ret2
    exact⟨⟨0,rfl,fun h=>absurd rfl h⟩,HC2.out,zbg HB3.out _⟩
   ·
    obtain rfl:x=(r3,7):=by rw[HVAL.out,if_neg (by decide),if_pos rfl,if_neg hu]
    have HU:Hid (decide (zaS (zct l r4 r5)=(zct l r4 r5).length)=false):=decide_eq_false hu
    clear hu
    go_wp2_with fail
    refine (zhv HBP.out).mono ?_
    rintro e w3 ⟨rfl,rfl⟩
    rw[HU.out]
    go_wp2
    go_ret2
    exact⟨⟨fr+r3,by simp,fun _=>rfl⟩,HC2.out,zbg HB3.out _⟩
  ·
   have e15:(f3 == 15)=false:=by simpa using h15
   by_cases h17:f3=17
   ·
    subst h17
    by_cases h0:d=0
    ·
     subst h0
     obtain rfl:x=(r3,8):=by rw[HVAL.out,if_neg (by decide),if_neg (by decide),if_pos rfl,if_pos (by decide)]
     go_wp2
     go_ret2
     exact⟨⟨fr+r3,by simp,fun _=>rfl⟩,HC2.out,zbg HB3.out _⟩
    ·
     obtain⟨d',rfl⟩:∃ d',d=d'+1:=⟨d - 1,by omega⟩
     have hM:MsgC w0 cb _ s d':=hrec (by omega)
     obtain⟨o,rfl⟩:∃ o:Nat,f6=o:=⟨f6.toNat,by have:=(HOF.out.2.1 rfl).1;omega⟩
     have hon:o<s.length:=by have:=(HOF.out.2.1 rfl).2;omega
     obtain rfl:x=(r4+(zfJ s d' o (zct l r4 r5)).1,(zfJ s d' o (zct l r4 r5)).2):=by
      rw[HVAL.out,if_neg (by decide),if_neg (by decide),if_pos rfl,if_neg (by simp)];rfl
     have HM:=hid (fun zf zd zm h1 h2 h3=>hM o (depth+1) (fr+r4) zf zd zm W2 _ (zct l r4 r5) h1 h2 h3 hon HC2.out HPB.out (by rw[HPL.out];omega) (by omega))
     obtain⟨z,HZZ⟩:∃ z:Nat,Hid (z=if (zfJ s d' o (zct l r4 r5)).2=0 then 0 else fr+r4+(zfJ s d' o (zct l r4 r5)).1):=⟨_,rfl⟩
     rw[←HZZ.out] at HM
     clear hM hrec h0
     have y5:=HF3.out.cell 5 _ rfl
     have x3:=HV2.out.cell 3 _ rfl
     have w1:IntKind.i64.wrap ((depth:Int)+1)=depth+1:=IntWalk.i64_in _ (by omega)
     have w2:IntKind.i64.wrap ((fr:Int)+(r4:Int))=fr+r4:=IntWalk.i64_in _ (by omega)
     have ed:((depth:Int) == (depth:Int)+((d':Int)+1))=false:=by simp;omega
     go_wp2_with fail
     refine (HM.out _ _ _ (by omega) (by omega) (by omega)).mono ?_
     rintro e w3 ⟨rfl,hC3,hg3⟩
     go_wp2
     go_ret2
     exact⟨⟨z,rfl,fun h=>by rw[HZZ.out,if_neg h,Nat.add_assoc]⟩,hC3,zkF HB3.out hg3⟩
   ·
    have e17:(f3 == 17)=false:=by simpa using h17
    obtain rfl:x=(0,0):=by rw[HVAL.out,if_neg (by decide),if_neg h15,if_neg h17]
    go_wp2
    go_ret2
    exact⟨⟨0,rfl,fun h=>absurd rfl h⟩,HC2.out,zbg HB3.out _⟩
end
section
open Go.RowKit
end
section
open Go.RowKit
def s32 (x:Nat):Int:=if x % 4294967296<2147483648 then ((x % 4294967296:Nat):Int) else ((x % 4294967296:Nat):Int) - 4294967296
def w32 (x:Nat):Nat:=if x % 4294967296<2147483648 then x % 4294967296 else x % 4294967296+18446744069414584320
def zaD (k:Int)(x:Nat):Nat:=if k=1∨k=8 then w32 x else if k=7 then (if 0<x then 1 else 0) else if k=3∨k=5∨k=9∨k=10∨k=11 then x % 4294967296 else x
theorem w32_lt (x:Nat):w32 x<2 ^ 64:=by unfold w32;split <;> omega
theorem zkG (k:Int){x:Nat}(h:x<2 ^ 64):zaD k x<2 ^ 64:=by
 unfold zaD
 have:=w32_lt x
 split
 ·
  exact this
 ·
  split
  ·
   split <;> omega
  ·
   split <;> omega
theorem znu (x:Nat)(w:World) :
  Calls Tryz.prog 191 #[.int .u64 x] w fun e w'=>e= .returned (.int .u32 ((x % 4294967296:Nat):Int))∧w=w':=by
 go_enter Tryz.func191,Tryz.ntmps191
 go_wp2
 go_ret
 exact⟨zcT (zbp (by omega)),rfl⟩
theorem zlJ (x:Nat)(w:World) :
  Calls Tryz.prog 190 #[.int .u64 x] w fun e w'=>e= .returned (.int .i32 (s32 x))∧w=w':=by
 have h:IntKind.i32.wrap ((x:Int) % 4294967296)=s32 x:=by
  unfold s32
  simp[IntKind.wrap,IntKind.bits,IntKind.signed]
  split <;> split <;> omega
 go_enter Tryz.func190,Tryz.ntmps190
 go_wp2
 go_ret
 exact⟨zcT (zbp (by first|exact h|rw[←h])),rfl⟩
theorem zlK (x:Nat)(w:World) :
  Calls Tryz.prog 189 #[.int .i32 (s32 x)] w fun e w'=>e= .returned (.int .u64 (w32 x))∧w=w':=by
 have h:(s32 x) % 18446744073709551616=(w32 x:Int):=by
  unfold s32 w32
  split <;> omega
 have h2:-2147483648≤s32 x∧s32 x<2147483648:=by
  unfold s32
  split <;> omega
 generalize s32 x=z at *
 go_enter Tryz.func189,Tryz.ntmps189
 go_wp2
 go_ret
 exact⟨zcT (zbp (by first|exact h|(rw[←h];omega))),rfl⟩
theorem zkH (x:Nat)(w:World) :
  Calls Tryz.prog 120 #[.int .u64 x] w fun e w'=>e= .returned (.int .i64 (s32 x))∧w=w':=by
 obtain⟨m,hm⟩:∃ m:Int,(x:Int) % 4294967296=m:=⟨_,rfl⟩
 have hm0:0≤m∧m<4294967296:=by omega
 have hcv:IntKind.i64.wrap m=m:=IntWalk.i64_in _ (by omega)
 by_cases h:m<2147483648
 ·
  have HS:Hid (m=s32 x):=by unfold s32;rw[if_pos (by omega)];rw[Hid];omega
  go_enter Tryz.func120,Tryz.ntmps120
  go_wp2
  go_ret
  exact⟨zcT (zbp HS.out),rfl⟩
 ·
  have HS:Hid (m - 4294967296=s32 x):=by unfold s32;rw[if_neg (by omega)];rw[Hid];omega
  go_enter Tryz.func120,Tryz.ntmps120
  go_wp2
  go_ret
  exact⟨zcT (zbp HS.out),rfl⟩
theorem znv (x:Nat)(w:World) :
  Calls Tryz.prog 119 #[.int .i64 (s32 x)] w fun e w'=>e= .returned (.int .u64 (w32 x))∧w=w':=by
 by_cases h:x % 4294967296<2147483648
 ·
  have h1:s32 x=((x % 4294967296:Nat):Int):=by unfold s32;rw[if_pos h]
  have h2:w32 x=x % 4294967296:=by unfold w32;rw[if_pos h]
  rw[h1,h2]
  generalize x % 4294967296=m at *
  clear h1 h2
  go_enter Tryz.func119,Tryz.ntmps119
  go_wp2
  go_ret
  exact⟨zcT (zbp (by omega)),rfl⟩
 ·
  have h1:s32 x=((x % 4294967296:Nat):Int) - 4294967296:=by unfold s32;rw[if_neg h]
  have h2:w32 x=x % 4294967296+18446744069414584320:=by unfold w32;rw[if_neg h]
  have h3:s32 x<0:=by omega
  have h4:-2147483648≤s32 x:=by omega
  have h5:((w32 x:Nat):Int)=18446744073709551615 - (-(s32 x+1)):=by rw[h1,h2];omega
  generalize s32 x=z at *
  rw[←Int.ofNat_inj] at h2
  generalize w32 x=y at *
  clear h1 h2 h
  go_enter Tryz.func119,Tryz.ntmps119
  go_wp2
  go_ret
  exact⟨zcT (zbp (by omega)),rfl⟩
end
end Go.Proofs.YtpckoeicbjfnhaaGreatDoor
