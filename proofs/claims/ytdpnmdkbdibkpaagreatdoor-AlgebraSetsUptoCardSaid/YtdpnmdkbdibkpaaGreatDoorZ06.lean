/- Parts of a proof: texts of the author, merged. No condition of their own. -/
import Derived.Test.YtdpnmdkbdibkpaaGreatDoorZ05
namespace Go.Proofs.YtdpnmdkbdibkpaaGreatDoor
set_option maxRecDepth 100000
set_option maxHeartbeats 16000000
section
open Go.RowKit
theorem zkq (s:List Mes)(j:Nat)(t:ByteArray)(hj:j<s.length):zcQ (s.take (j+1)) t=(zcQ (s.take j) t||decide ((s.getD j .zero).name=t)):=by
 have e:s.getD j .zero=s[j]:=by simp[List.getD,hj]
 rw[List.take_succ_eq_append_getElem hj,e]
 simp only[zcQ,List.any_append,List.any_cons,List.any_nil,Bool.or_false]
theorem zkr {w:World}{v:Value}{s:List Mes}(h:zaj w v s) :
  Calls Tryz.prog 100 #[v] w fun e w'=>e= .returned (.tuple #[.int .i64 (zbj s).1,.int .i64 (zbj s).2.1,.int .i64 (zbj s).2.2])∧Below w.heap.size w w':=by
 obtain⟨hlen,a,cap,rfl,hat⟩:=h.open
 have HAT:=hid hat
 clear hat
 obtain⟨n,HN⟩:∃ n,Hid (n=s.length):=⟨_,rfl⟩
 rw[←HN.out] at hlen h ⊢
 obtain⟨x,HX⟩:∃ x,Hid (x=zbj s):=⟨_,rfl⟩
 rw[←HX.out]
 by_cases hbig:n=0∨100<n
 ·
  obtain rfl:x=(-1,-1,1):=by
   rw[HX.out,zbj,if_pos (by rw[←HN.out];omega)]
  rcases hbig with hb|hb
  ·
   subst hb
   go_enter Tryz.func100,Tryz.ntmps100
   go_wp2
   go_ret3
   exact⟨rfl,by (with_reducible repeat first|exact Below.refl _ _|refine pzA ?_ _|refine pzB ?_ _|refine zab ?_ _|refine Below.drew ?_)⟩
  ·
   have h0:((n:Int) == 0)=false:=by simp;omega
   go_enter Tryz.func100,Tryz.ntmps100
   go_wp2
   go_ret3
   exact⟨rfl,by (with_reducible repeat first|exact Below.refl _ _|refine pzA ?_ _|refine pzB ?_ _|refine zab ?_ _|refine Below.drew ?_)⟩
 ·
  have hn1:1≤n:=by omega
  have hn2:n≤100:=by omega
  have h0:((n:Int) == 0)=false:=by simp;omega
  clear hbig
  have HGO:Hid (zbB n [] s 0=x):=by rw[Hid,HX.out,zbj,if_neg (by rw[←HN.out];omega),HN.out]
  go_enter Tryz.func100,Tryz.ntmps100
  go_wp2
  go_loopw [5] (fun v5 wr=>∃ i:Nat,i≤n∧v5= .int .i64 i∧Hid (zbB n (s.take i) (s.drop i) i=x)∧Hid (Below w.heap.size w wr)) (fun v5 _=>n - (intOf v5).toNat)
  case atStart=>exact⟨0,by omega,rfl,HGO.out,Below.refl _ _⟩
  case round =>
   obtain⟨i,hi,rfl,HK,HBEL⟩:=hrel
   by_cases hlt:i<n
   ·
    have hgo:=zgG n s i (by rw[←HN.out];exact hlt)
    rw[HK.out] at hgo
    have HGA:=hid hgo
    clear hgo
    have hat:=HAT.out
    obtain⟨b,o,fv,ha,hnsz,hc0,hc1,hfs⟩:=hat i (by rw[←HN.out];exact hlt)
    have hix:=zad Tryz.underlying23 zbV ha i hlt (cap:=cap)
    obtain⟨m,HM⟩:∃ m,Hid (m=s.getD i .zero):=⟨_,rfl⟩
    rw[←HM.out] at hnsz hc0 hfs HGA
    obtain⟨mn,mf⟩:=m
    simp only at hnsz hc0 hfs HGA
    obtain⟨hflen,fa,fcap,rfl,-⟩:=hfs.open
    obtain⟨fl,HFL⟩:∃ fl,Hid (fl=mf.length):=⟨_,rfl⟩
    rw[←HFL.out] at hflen hc1
    have HA:=hid ha
    have HC:=hid (And.intro hc0 hc1)
    clear ha hfs hat hc0 hc1
    go_wp2
    go_loopw [6,7] (fun v6 v7 wr=>∃ j:Nat,j≤i∧v7= .int .i64 j∧v6= .bool (zcQ (s.take j) mn)∧Hid (Below w.heap.size w wr)) (fun _ v7 _=>i - (intOf v7).toNat)
    case atStart=>exact⟨0,by omega,rfl,rfl,HBEL.out⟩
    case round =>
     obtain⟨j,hj,rfl,rfl,HB2⟩:=hrel
     have hkw:∀ p u,w.cell? p=some u→wr.cell? p=some u:=fun p u hu=>(Below.cell (p:=p) HB2.out (World.block_lt_of_cell? w p hu)).trans hu
     have c0:=hkw _ _ HC.out.1
     have c1:=hkw _ _ HC.out.2
     have HKW:=hid hkw
     clear hkw
     obtain⟨bn,HBN⟩:∃ bn,Hid (bn=zcQ (s.take j) mn):=⟨_,rfl⟩
     rw[←HBN.out]
     by_cases hjl:j<i
     ·
      have hat:=HAT.out
      obtain⟨b2,o2,fv2,ha2,-,q0,-,-⟩:=hat j (by rw[←HN.out];omega)
      have hixj:=zad Tryz.underlying23 zbV ha2 j (len:=n) (by omega) (cap:=cap)
      have hkw:=HKW.out
      have r0:=hkw _ _ q0
      have HA2:=hid ha2
      clear hkw ha2 hat q0
      obtain⟨g,HG⟩:∃ g,Hid (g=s.getD j .zero):=⟨_,rfl⟩
      rw[←HG.out] at r0
      have hb1:=znd g.name mn
      have HN1:=hid (zkq s j mn (by rw[←HN.out];omega))
      rw[←HBN.out,←HG.out] at HN1
      cases bn
      all_goals
       go_wp2
       go_quiet (fail)
       go_wp2
       go_roundw
       case rel=>exact⟨j+1,by omega,by go_num,by rw[HN1.out];simp,zab HB2.out _⟩
       case measure=>simp[intOf];omega
     ·
      obtain rfl:j=i:=by omega
      go_wp2_with fail
      refine (zhV mn (by omega) _).mono ?_
      rintro e w' ⟨rfl,rfl⟩
      by_cases hnm:zan mn=true
      ·
       have HNM:=hid hnm
       clear hnm
       have hgb:=HGA.out
       rw[if_neg (by rw[HNM.out];decide),←HBN.out] at hgb
       have HGC:=hid hgb
       clear hgb
       rw[HNM.out]
       cases bn with
       | true =>
        have HX1:Hid (x=((j:Int),-1,3)):=by rw[Hid,HGC.out];rfl
        go_wp2
        go_ret3
        exact⟨by rw[HX1.out];rfl,by (with_reducible repeat first|exact Below.refl _ _|refine pzA ?_ _|refine pzB ?_ _|refine zab ?_ _|refine Below.drew ?_);exact HB2.out⟩
       | false =>
        have hgc:=HGC.out
        rw[if_neg (by decide)] at hgc
        have HGD:=hid hgc
        clear hgc
        by_cases h200:200<fl
        ·
         have HX1:Hid (x=((j:Int),-1,4)):=by rw[Hid,HGD.out,if_pos (by rw[←HFL.out];exact h200)]
         go_wp2
         go_ret3
         exact⟨by rw[HX1.out];rfl,by (with_reducible repeat first|exact Below.refl _ _|refine pzA ?_ _|refine pzB ?_ _|refine zab ?_ _|refine Below.drew ?_);exact HB2.out⟩
        ·
         have hgd2:=HGD.out
         rw[if_neg (by rw[←HFL.out];exact h200)] at hgd2
         have HGE:=hid hgd2
         clear hgd2
         go_wp2
         go_loopw [8] (fun v8 wr=>∃ q:Nat,q≤fl∧v8= .int .i64 q∧Hid (zao n (mf.take q) (mf.drop q) q=zao n [] mf 0)∧Hid (Below w.heap.size w wr)) (fun v8 _=>fl - (intOf v8).toNat)
         case atStart=>exact⟨0,by omega,rfl,hid rfl,HB2.out⟩
         case round =>
          obtain⟨q,hq,rfl,HQ,HB3⟩:=hrel
          have hkw2:∀ p u,w.cell? p=some u→wr.cell? p=some u:=fun p u hu=>(Below.cell (p:=p) HB3.out (World.block_lt_of_cell? w p hu)).trans hu
          have c0':=hkw2 _ _ HC.out.1
          have c1':=hkw2 _ _ HC.out.2
          have HKW2:=hid hkw2
          clear hkw2
          by_cases hql:q<fl
          ·
           have hsr:zaj wr (.slice a n cap) s:=h.keep HKW2.out
           have HSR:=hid hsr
           clear hsr
           obtain⟨f,HF⟩:∃ f,Hid (f=mf.getD q .zero):=⟨_,rfl⟩
           have hfst:=zeF n mf q (by rw[←HFL.out];exact hql)
           rw[HQ.out,←HF.out] at hfst
           have HST:=hid hfst
           clear hfst
           go_wp2_with fail
           refine (zkp HSR.out j q (by rw[←HN.out];exact hlt) mf (by rw[←HM.out]) (by rw[←HFL.out];exact hql) f HF.out).mono ?_
           rintro e w5 ⟨rfl,hb5⟩
           rw[←HN.out]
           obtain⟨K,HKK⟩:∃ K,Hid (K=zax n (za7 (mf.take q) f.name) (zbx (mf.take q) f.number) f):=⟨_,rfl⟩
           rw[←HKK.out] at HST ⊢
           have HB5:Hid (Below w.heap.size w w5):=zai HB3.out hb5 HB3.out.size
           clear hb5
           by_cases hK:K=0
           ·
            subst hK
            go_wp2
            go_roundw
            case rel =>
             refine⟨q+1,by omega,by go_num,?_,HB5.out⟩
             have:=HST.out
             first|exact this.symm|(rw[if_pos trivial] at this;exact this.symm)|(rw[if_pos rfl] at this;exact this.symm)
            case measure=>simp[intOf];omega
           ·
            have hKp:0<K:=by omega
            have HX1:Hid (x=((j:Int),(q:Int),K)):=by
             have:=HST.out
             rw[if_neg hK] at this
             rw[Hid,HGE.out,this]
            clear hK
            go_wp2
            go_ret3
            exact⟨by rw[HX1.out];rfl,by (with_reducible repeat first|exact Below.refl _ _|refine pzA ?_ _|refine pzB ?_ _|refine zab ?_ _|refine Below.drew ?_);exact HB5.out⟩
          ·
           obtain rfl:q=fl:=by omega
           go_wp2
           go_roundw
           case rel =>
            refine⟨j+1,by omega,by go_num,?_,HB3.out⟩
            have h1:=HQ.out
            rw[HFL.out,List.drop_length] at h1
            have h2:=HGE.out
            rw[←h1] at h2
            simp only[zao] at h2
            exact h2.symm
           case measure=>simp[intOf];omega
      ·
       have hnm2:zan mn=false:=by simpa using hnm
       have HX1:Hid (x=((j:Int),-1,2)):=by rw[Hid,HGA.out,if_pos hnm2]
       have HNM:=hid hnm2
       clear hnm hnm2
       rw[HNM.out]
       go_wp2
       go_ret3
       exact⟨by rw[HX1.out];rfl,by (with_reducible repeat first|exact Below.refl _ _|refine pzA ?_ _|refine pzB ?_ _|refine zab ?_ _|refine Below.drew ?_);exact HB2.out⟩
   ·
    have HX1:Hid (x=(0,0,0)):=by
     have h1:=HK.out
     rw[List.drop_of_length_le (by rw[←HN.out];omega)] at h1
     exact h1.symm
    go_wp2
    go_ret3
    exact⟨by rw[HX1.out];rfl,by (with_reducible repeat first|exact Below.refl _ _|refine pzA ?_ _|refine pzB ?_ _|refine zab ?_ _|refine Below.drew ?_);exact HBEL.out⟩
theorem zeP {w:World}{v:Value}{s:List Mes}(h:zaj w v s) :
  Calls Tryz.prog 68 #[v] w fun e w'=>e= .returned (.bool (zaC s))∧Below w.heap.size w w':=by
 obtain⟨x,HX⟩:∃ x,Hid (x=zbj s):=⟨_,rfl⟩
 have H:Hid (zaC s=decide (x.2.2=0)):=by rw[Hid,HX.out];rfl
 obtain⟨x1,x2,x3⟩:=x
 go_enter Tryz.func68,Tryz.ntmps68
 go_wp2_with (go_at_call 100;refine (zkr h).mono ?_;rintro e w1 ⟨rfl,hb⟩;rw[←HX.out])
 go_ret
 refine⟨zcG ?_,by (with_reducible repeat first|exact Below.refl _ _|refine pzA ?_ _|refine pzB ?_ _|refine zab ?_ _|refine Below.drew ?_);exact hb⟩
 rw[H.out]
 show Value.bool ((x3:Int) == 0)=_
 congr 1
 rw[Bool.eq_iff_iff]
 simp
end
section
open Go.RowKit
def zah {α:Type}(p:α→Bool):List α→Nat→Int
 | [],_=> -1
 | f::r,i=>if p f then i else zah p r (i+1)
def zak (fs:List Fld)(n:Int):Int:=zah (fun f=>decide (f.number=n)) fs 0
theorem zhW (p:Fld→Bool)(fs:List Fld)(k:Nat)(hk:k<fs.length):zah p (fs.drop k) k=if p (fs.getD k .zero) then (k:Int) else zah p (fs.drop (k+1)) (k+1):=by
 have e:fs.getD k .zero=fs[k]:=by simp[List.getD,hk]
 rw[e,List.drop_eq_getElem_cons hk,zah]
theorem zfp {α:Type}(p:α→Bool):∀ (fs:List α) (i:Nat),zah p fs i= -1∨∃ k:Nat,zah p fs i=k∧i≤k∧k<i+fs.length
 | [],_=> .inl rfl
 | f::r,i=>by
  simp only[zah]
  split
  ·
   exact .inr ⟨i,rfl,by omega,by simp⟩
  ·
   rcases zfp p r (i+1) with h|⟨k,h,h1,h2⟩
   ·
    exact .inl h
   ·
    exact .inr ⟨k,h,by omega,by simp;omega⟩
theorem zdG {w:World}{v:Value}{fs:List Fld}(h:za4 w v fs)(nm:ByteArray)(x:Int) :
  Calls Tryz.prog 33 #[.agg #[.string nm,v],.int .i64 x] w fun e w'=>e= .returned (.int .i64 (zak fs x))∧Below w.heap.size w w':=by
 obtain⟨hlen,a,cap,rfl,hat⟩:=h.open
 obtain⟨n,HN⟩:∃ n,Hid (n=fs.length):=⟨_,rfl⟩
 rw[←HN.out] at hat hlen ⊢
 have HAT:=hid hat
 clear hat
 go_enter Tryz.func33,Tryz.ntmps33
 go_wp2
 go_loop [5] (fun v5=>∃ k:Nat,k≤n∧v5= .int .i64 k∧Hid (zah (fun f=>decide (f.number=x)) (fs.drop k) k=zak fs x)) (fun v5=>n - (intOf v5).toNat)
 case atStart=>exact⟨0,by omega,rfl,hid rfl⟩
 case round =>
  obtain⟨k,hk,rfl,HK⟩:=hrel
  by_cases hlt:k<n
  ·
   have hat:=HAT.out
   obtain⟨b,o,ha,-,-,g1,-,-,-,-⟩:=hat k hlt
   clear hat
   have hbl:b<w.heap.size:=World.block_lt_of_cell? w _ g1
   have hix:=zad Tryz.underlying62 zbW ha k hlt (cap:=cap)
   have HA:=hid ha
   have hst:=hid (zhW (fun f=>decide (f.number=x)) fs k (by rw[←HN.out];exact hlt))
   obtain⟨y,HY⟩:∃ y,Hid (y=(fs.getD k .zero).number):=⟨_,rfl⟩
   rw[←HY.out] at g1
   clear ha
   by_cases hxy:y=x
   ·
    have hb:(y == x)=true:=by simpa using hxy
    have HE:=hid hxy
    clear hxy
    go_wp2
    go_ret
    have e:zak fs x=k:=by rw[←HK.out,hst.out,if_pos (show decide ((fs.getD k .zero).number=x)=true from decide_eq_true (by rw[←HY.out];exact HE.out))]
    exact⟨by rw[e];rfl,by (with_reducible repeat first|exact Below.refl _ _|refine pzA ?_ _|refine pzB ?_ _|refine zab ?_ _|refine Below.drew ?_)⟩
   ·
    have hb:(y == x)=false:=by simpa using hxy
    have HE:=hid hxy
    clear hxy
    go_wp2
    go_round
    case rel=>exact⟨k+1,by omega,by go_num,by rw[←HK.out,hst.out,if_neg (show ¬ decide ((fs.getD k .zero).number=x)=true from fun e=>HE.out (by rw[HY.out];exact of_decide_eq_true e))];exact hid rfl⟩
    case measure=>simp[intOf];omega
  ·
   go_wp2
   go_ret
   have e:zak fs x= -1:=by
    rw[←HK.out,List.drop_of_length_le (by rw[←HN.out];omega)];rfl
   exact⟨by rw[e];rfl,by (with_reducible repeat first|exact Below.refl _ _|refine pzA ?_ _|refine pzB ?_ _|refine zab ?_ _|refine Below.drew ?_)⟩
theorem zix {w:World}{v:Value}{fs:List Fld}(h:za4 w v fs)(F:Nat)(cap:Array Value)(p:Fld→Bool)(hcf:∀ (args:Array Value) (w:World),(callFunc F args).run Tryz.prog w= .ok (.enter F args) w)
  (hcl:∀ (f:Fld) (wr:World),f.Ok→Below w.heap.size w wr→Calls Tryz.prog F (#[f.val]++cap) wr fun e w'=>e= .returned (.bool (p f))∧Below wr.heap.size wr w') :
  Calls Tryz.prog 155 #[v,.func (.func F) #[] cap] w fun e w'=>e= .returned (.int .i64 (zah p fs 0))∧Below w.heap.size w w':=by
 obtain⟨hlen,a,c,rfl,hat⟩:=h.open
 obtain⟨n,HN⟩:∃ n,Hid (n=fs.length):=⟨_,rfl⟩
 rw[←HN.out] at hat hlen ⊢
 have HAT:=hid hat
 have HCL:=hid hcl
 clear hat hcl
 go_enter Tryz.func155,Tryz.ntmps155
 go_wp2
 go_loopw [8] (fun v8 wr=>∃ k:Nat,k≤n∧v8= .int .i64 k∧Hid (zah p (fs.drop k) k=zah p fs 0)∧Hid (Below w.heap.size w wr)) (fun v8 _=>n - (intOf v8).toNat)
 case atStart=>exact⟨0,by omega,rfl,hid rfl,Below.refl _ _⟩
 case round =>
  obtain⟨k,hk,rfl,HK,HB⟩:=hrel
  by_cases hlt:k<n
  ·
   have hat:=HAT.out
   obtain⟨b,o,ha,hfok,g0,g1,g2,g3,g4,g5⟩:=hat k hlt
   clear hat
   have hkw:∀ p u,w.cell? p=some u→wr.cell? p=some u:=fun p u hu=>(Below.cell (p:=p) HB.out (World.block_lt_of_cell? w p hu)).trans hu
   have r0:=hkw _ _ g0
   have r1:=hkw _ _ g1
   have r2:=hkw _ _ g2
   have r3:=hkw _ _ g3
   have r4:=hkw _ _ g4
   have r5:=hkw _ _ g5
   have hix:=zad Tryz.underlying62 zbW ha k hlt (cap:=c)
   have HA:=hid ha
   have hst:=hid (zhW p fs k (by rw[←HN.out];exact hlt))
   obtain⟨f,HF⟩:∃ f,Hid (f=fs.getD k .zero):=⟨_,rfl⟩
   rw[←HF.out] at hfok r0 r1 r2 r3 r4 r5 hst
   have HFO:=hid hfok
   clear ha hkw g0 g1 g2 g3 g4 g5 hfok
   go_wp2_with fail
   have hcl:=HCL.out
   refine (hcl f _ HFO.out HB.out).mono ?_
   rintro e w5 ⟨rfl,hb5⟩
   clear hcl
   have HB5:Hid (Below w.heap.size w w5):=zai HB.out hb5 HB.out.size
   clear hb5
   cases hp:p f with
   | true =>
    have e:zah p fs 0=k:=by rw[←HK.out,hst.out,if_pos hp]
    have HE:=hid e
    clear hp e
    go_wp2
    go_ret
    exact⟨by rw[HE.out];rfl,HB5.out⟩
   | false =>
    have e:zah p (fs.drop (k+1)) (k+1)=zah p fs 0:=by rw[←HK.out,hst.out,if_neg (by rw[hp];decide)]
    have HE:=hid e
    clear hp e
    go_wp2
    go_roundw
    case rel=>exact⟨k+1,by omega,by go_num,HE.out,HB5.out⟩
    case measure=>simp[intOf];omega
  ·
   go_wp2
   go_ret
   have e:zah p fs 0= -1:=by
    rw[←HK.out,List.drop_of_length_le (by rw[←HN.out];omega)];rfl
   exact⟨by rw[e];rfl,HB.out⟩
end
section
open Go.RowKit
theorem zfq {w:World}{q:Nat}{x:Int}(hq:w.cell? ⟨q,0,none⟩=some (.int .i64 x))(f:Fld) :
  Calls Tryz.prog 128 #[f.val,.pointer (some ⟨q,0,none⟩)] w fun e w'=>e= .returned (.bool (decide (f.number=x)))∧Below w.heap.size w w':=by
 obtain⟨name,number,kind,rep,packed,of⟩:=f
 simp only[Fld.val]
 have hql:q<w.heap.size:=World.block_lt_of_cell? w _ hq
 go_enter Tryz.func128,Tryz.ntmps128
 go_wp2
 go_ret
 refine⟨zcG ?_,by (with_reducible repeat first|exact Below.refl _ _|refine pzA ?_ _|refine pzB ?_ _|refine zab ?_ _|refine Below.drew ?_)⟩
 show Value.bool (number == x)=_
 congr 1
theorem zks {α:Type}(p:α→Bool)(l:List α)(h:l.length≤140737488355328):-1≤zah p l 0∧zah p l 0≤140737488355328:=by
 rcases zfp p l 0 with h|⟨j,h,h1,h2⟩
 ·
  rw[h];omega
 ·
  rw[h];omega
theorem znf {w:World}{v:Value}{fs:List Fld}(h:za4 w v fs)(nm:ByteArray)(F:Nat)(cap:Array Value)(p:Fld→Bool)(hcf:∀ (args:Array Value) (w:World),(callFunc F args).run Tryz.prog w= .ok (.enter F args) w)
  (hcl:∀ (f:Fld) (wr:World),f.Ok→Below w.heap.size w wr→Calls Tryz.prog F (#[f.val]++cap) wr fun e w'=>e= .returned (.bool (p f))∧Below wr.heap.size wr w') :
  Calls Tryz.prog 127 #[.agg #[.string nm,v],.func (.func F) #[] cap] w fun e w'=>e= .returned (.tuple #[.int .i64 (if 0≤zah p fs 0 then zah p fs 0 else 0),.bool (decide (0≤zah p fs 0))])∧Below w.heap.size w w':=by
 have hB1:Below w.heap.size w (w.alloc (.cells #[.string nm,v] 64)):=(Below.refl _ _).alloc (Nat.le_refl _) _
 have HI:=hid (zix (h.keep (w':=w.alloc (.cells #[.string nm,v] 64)) (zaa hB1)) F cap p hcf (fun f wr hok hb=>hcl f wr hok (hB1.trans (hb.mono (by simp)))))
 have hbd:=zks p fs h.1.2.1
 obtain⟨hlen,a,c,rfl,-⟩:=h.open
 generalize zah p fs 0=k at *
 clear h hcl
 by_cases hk:0≤k
 ·
  rw[if_pos hk]
  go_enter Tryz.func127,Tryz.ntmps127
  go_wp2_with fail
  refine HI.out.mono ?_
  rintro e w1 ⟨rfl,hb1⟩
  go_wp2_with fail
  go_ret2
  refine⟨?_,zai hB1 hb1 (by simp)⟩
  first|rfl|(simp[hk])|(simp[hk];omega)
 ·
  rw[if_neg hk]
  go_enter Tryz.func127,Tryz.ntmps127
  go_wp2_with fail
  refine HI.out.mono ?_
  rintro e w1 ⟨rfl,hb1⟩
  go_wp2_with fail
  go_ret2
  refine⟨?_,zai hB1 hb1 (by simp)⟩
  first|rfl|(simp[hk])|(simp[hk];omega)
theorem zcR {w:World}{v:Value}{fs:List Fld}(h:za4 w v fs)(nm:ByteArray)(x:Int) :
  Calls Tryz.prog 86 #[.agg #[.string nm,v],.int .i64 x] w fun e w'=>e= .returned (.tuple #[.int .i64 (if 0≤zak fs x then zak fs x else 0),.bool (decide (0≤zak fs x))])∧Below w.heap.size w w':=by
 have H:=hid h
 obtain⟨hlen,a,c,rfl,-⟩:=h.open
 obtain⟨k,HK⟩:∃ k,Hid (zah (fun f:Fld=>decide (f.number=x)) fs 0=k):=⟨_,rfl⟩
 rw[show zak fs x=k from HK.out]
 clear h
 by_cases hk:0≤k
 all_goals
  go_enter Tryz.func86,Tryz.ntmps86
  go_wp2_with fail
  refine (znf (H.out.keep (w':=(w.alloc _).alloc _) (zaa (Below.alloc ((Below.refl _ _).alloc (Nat.le_refl _) _) (by simp) _))) nm 128 _ (fun f=>decide (f.number=x)) (fun args w=>by simp[go_sem]) ?_).mono ?_
  ·
   intro f wr hok hb
   refine zfq ?_ f
   have:=zaa hb ⟨w.heap.size+1,0,none⟩ (.int .i64 x) (by simp[go_sem])
   exact this
  ·
   rintro e w5 ⟨rfl,hb⟩
   rw[HK.out]
   first|rw[if_pos hk]|rw[if_neg (by omega)]
   go_wp2_with fail
   go_ret2
   refine⟨?_,zai (Below.alloc ((Below.refl _ _).alloc (Nat.le_refl _) _) (by simp) _) hb (by simp;omega)⟩
   first|rfl|(simp[hk])
end
end Go.Proofs.YtdpnmdkbdibkpaaGreatDoor
