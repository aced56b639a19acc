/- What schema.Check and schema.Right return of any schema: scheck, sright. No condition beyond that the argument reads as a schema. What the document's Fault of a field returns, of any schema: fieldFault. The two places lie in the schema. -/
import Derived.Test.YtdpnmdkbdibkpaaGreatDoorZ04
namespace Go.Proofs.YtdpnmdkbdibkpaaGreatDoor
set_option maxRecDepth 100000
set_option maxHeartbeats 16000000
section
open Go.RowKit
theorem zbV (w:World):(sizeOf 64).run Tryz.prog w= .ok 2 w:=by kernel_rfl
theorem zbW (w:World):(sizeOf 51).run Tryz.prog w= .ok 6 w:=by kernel_rfl
def zc7 (x:Int × Int × Nat):Value:=.agg #[.int .i64 x.1,.int .i64 x.2.1,.int .i64 x.2.2]
def zjp (x:Int × Int × Nat):Int:=if x.2.2=0 then 0 else 9
def zpS (w:World)(B:Nat):Prop:=w.heap[B]?=some (.cells #[.int .i64 0,.int .i64 0,.int .i64 0] 135 (0,0))
theorem zpS.cells {w:World}{B:Nat}(h:zpS w B):w.cell? ⟨B,0,none⟩=some (.int .i64 0)∧w.cell? ⟨B,1,none⟩=some (.int .i64 0)∧w.cell? ⟨B,2,none⟩=some (.int .i64 0) ∧
  w.frozen? ⟨B,0,none⟩=false∧w.frozen? ⟨B,1,none⟩=false∧w.frozen? ⟨B,2,none⟩=false∧B<w.heap.size:=by
 unfold zpS at h
 refine⟨by simp[World.cell?,h],by simp[World.cell?,h],by simp[World.cell?,h],by simp[World.frozen?,h],by simp[World.frozen?,h],by simp[World.frozen?,h],?_⟩
 rw[Array.getElem?_eq_some_iff] at h
 exact h.1
structure zbM (w:World)(B:Nat)(en:List (ByteArray × Value))(es:List (Met × Value))(wr:World):Prop where
 names:zas wr (B+1) zm9 en
 seen:zas wr (B+1+1) zd7 es
 box:zpS wr B
 below:Below B w wr
theorem zgI (w:World)(o1 o2 o3:Obj):(((w.alloc o1).alloc o2).alloc o3).heap[w.heap.size]?=some o1∧(((w.alloc o1).alloc o2).alloc o3).heap[w.heap.size+1]?=some o2∧(((w.alloc o1).alloc o2).alloc o3).heap[w.heap.size+1+1]?=some o3:=by
 have e1:(w.alloc o1).heap.size=w.heap.size+1:=by simp
 have e2:((w.alloc o1).alloc o2).heap.size=w.heap.size+1+1:=by simp
 refine⟨?_,?_,?_⟩
 ·
  rw[Below.heap_alloc _ _ _ (by omega),Below.heap_alloc _ _ _ (by omega)];exact heap_alloc_new w o1
 ·
  rw[Below.heap_alloc _ _ _ (by omega),←e1];exact heap_alloc_new _ o2
 ·
  rw[←e2];exact heap_alloc_new _ o3
theorem zbM.alloc {w:World}{B:Nat}{en:List (ByteArray × Value)}{es:List (Met × Value)}{wr:World}(h:zbM w B en es wr)(o:Obj):zbM w B en es (wr.alloc o):=by
 have h1:=h.names.lt
 have h2:=h.seen.lt
 refine⟨?_,?_,?_,h.below.alloc (by omega) o⟩
 ·
  unfold zas;rw[Below.heap_alloc wr o _ h1];exact h.names
 ·
  unfold zas;rw[Below.heap_alloc wr o _ h2];exact h.seen
 ·
  unfold zpS;rw[Below.heap_alloc wr o _ (by omega)];exact h.box
theorem zjq {w:World}{v:Value}{s:List Mes}(h:zaj w v s) :
  Calls Tryz.prog 81 #[v] w fun e w'=>e= .returned (.tuple #[zc7 (zbj s),.int .u8 (zjp (zbj s))])∧Below w.heap.size w w':=by
 obtain⟨hlen,a,cap,rfl,hat⟩:=h.open
 have HAT:=hid hat
 clear hat
 obtain⟨n,HN⟩:∃ n,Hid (n=s.length):=⟨_,rfl⟩
 rw[←HN.out] at hlen h ⊢
 obtain⟨x,HX⟩:∃ x,Hid (x=zbj s):=⟨_,rfl⟩
 rw[←HX.out]
 obtain⟨B,HB⟩:∃ B,Hid (B=w.heap.size):=⟨_,rfl⟩
 have hwB:w.heap.size≤B:=by rw[HB.out];exact Nat.le_refl _
 by_cases hbig:n<1∨100<n
 ·
  obtain rfl:x=(-1,-1,1):=by
   rw[HX.out,zbj,if_pos (by rw[←HN.out];omega)]
  rcases hbig with hb|hb
  all_goals
   go_enter Tryz.func81,Tryz.ntmps81
   go_wp2
   refine bodyPost_ret (v:=.tuple #[zc7 (-1,-1,1),.int .u8 9]) ?_ rfl ⟨rfl,?_⟩
   ·
    simp[results,Tryz.results81,go_sem,zc7]
   ·
    (with_reducible repeat first|exact Below.refl _ _|refine pzA ?_ _|refine pzB ?_ _|refine zab ?_ _|refine Below.drew ?_)
 ·
  have hn1:1≤n:=by omega
  have hn2:n≤100:=by omega
  clear hbig
  have HGO:Hid (zbB n [] s 0=x):=by rw[Hid,HX.out,zbj,if_neg (by rw[←HN.out];omega),HN.out]
  have hmm:=@run_makeMap Tryz.prog
  go_enter Tryz.func81,Tryz.ntmps81
  go_wp2
  rw[←HB.out]
  go_loopw [25] (fun v25 wr=>∃ k:Nat,k≤n∧v25= .int .i64 k∧Hid (zbB n (s.take k) (s.drop k) k=x)∧Hid (∃ en es,zbM w B en es wr∧zdF (s.take k) en∧zbR k [] es)) (fun v25 _=>n - (intOf v25).toNat)
  case atStart =>
   refine⟨0,by omega,rfl,HGO.out,[],[],⟨?_,?_,?_,?_⟩,fun t=>rfl,zbR.start _⟩
   ·
    unfold zas;rw[HB.out];exact (zgI w _ _ _).2.1
   ·
    unfold zas;rw[HB.out];exact (zgI w _ _ _).2.2
   ·
    unfold zpS;rw[HB.out];exact (zgI w _ _ _).1
   ·
    rw[HB.out];(with_reducible repeat first|exact Below.refl _ _|refine pzA ?_ _|refine pzB ?_ _|refine zab ?_ _|refine Below.drew ?_)
  case round =>
   obtain⟨k,hk,rfl,HK,HI⟩:=hrel
   by_cases hlt:k<n
   ·
    obtain⟨en,es,HCI,HNI,HSI⟩:∃ en es,Hid (zbM w B en es wr)∧Hid (zdF (s.take k) en)∧Hid (zbR k [] es):=HI.out
    have hgo:=zgG n s k (by rw[←HN.out];exact hlt)
    rw[HK.out] at hgo
    have HGA:=hid hgo
    clear hgo
    have hat:=HAT.out
    obtain⟨b,o,fv,ha,hnsz,hw0,hw1,hfs⟩:=hat k (by rw[←HN.out];exact hlt)
    clear hat
    have hkw:∀ p u,w.cell? p=some u→wr.cell? p=some u:=fun p u hu=>(Below.cell (p:=p) HCI.out.below (by rw[HB.out];exact World.block_lt_of_cell? w p hu)).trans hu
    have hc0:=hkw _ _ hw0
    have hc1:=hkw _ _ hw1
    clear hkw hw0 hw1
    have hix:=zad Tryz.underlying23 zbV ha k hlt (cap:=cap)
    have HAA:=hid ha
    have hbl:b<wr.heap.size:=World.block_lt_of_cell? wr _ hc0
    clear ha
    obtain⟨m,HM⟩:∃ m,Hid (m=s.getD k .zero):=⟨_,rfl⟩
    rw[←HM.out] at hnsz hc0 hfs HGA
    obtain⟨mn,mf⟩:=m
    simp only at hnsz hc0 hfs HGA
    obtain⟨hflen,fa,fcap,rfl,hfat⟩:=hfs.open
    have HFS:=hid hfs
    obtain⟨fl,HFL⟩:∃ fl,Hid (fl=mf.length):=⟨_,rfl⟩
    rw[←HFL.out] at hflen hc1
    clear hfs hfat
    go_wp2_with fail
    refine zjn _ (fun w1=>Hid (zbM w B en es w1)∧w1.cell? ⟨wr.heap.size,0,none⟩=some (.string mn)∧w1.cell? ⟨wr.heap.size,1,none⟩=some (.slice fa fl fcap)∧Hid (Below wr.heap.size wr w1)) ?_ ?_
    ·
     exact⟨HCI.out.alloc _,by simp[go_sem],by simp[go_sem],(Below.refl _ _).alloc (Nat.le_refl _) _⟩
    ·
     rintro w1 ⟨HC1,d0,d1,HB1⟩
     obtain⟨mb,HMB⟩:∃ mb,Hid (mb=wr.heap.size):=⟨_,rfl⟩
     rw[←HMB.out] at d0 d1 ⊢
     have hbx:=HC1.out.box.cells
     obtain⟨x0,x1,x2,y0,y1,y2,hBl⟩:=hbx
     refine (zbG mn (by omega) _).mono ?_
     rintro e w' ⟨rfl,rfl⟩
     by_cases hnm:zan mn=true
     ·
      have HNM:=hid hnm
      have HGB:=hid HGA.out
      have hgb:=HGB.out
      rw[if_neg (by rw[HNM.out];decide)] at hgb
      have HGC:=hid hgb
      clear hgb hnm
      have hmet:=HNI.out mn
      cases hmm2:zcQ (s.take k) mn with
      | true =>
       rw[hmm2] at hmet
       have hl1:=zgH HC1.out.names mn true hmet
       simp only[if_true] at hl1
       have HX1:Hid (x=((k:Int),-1,3)):=by rw[Hid,HGC.out,if_pos hmm2]
       have HME:=hid hmet
       have HMM2:=hid hmm2
       clear hmet hmm2
       rw[HNM.out]
       go_wp2
       refine bodyPost_ret (v:=.tuple #[zc7 ((k:Int),-1,3),.int .u8 9]) ?_ rfl ⟨?_,?_⟩
       ·
        simp[results,Tryz.results81,go_sem,zc7,x0,x1,x2]
       ·
        rw[HX1.out];rfl
       ·
        (with_reducible repeat first|exact Below.refl _ _|refine pzA ?_ _|refine pzB ?_ _|refine zab ?_ _|refine Below.drew ?_)
        exact HC1.out.below.mono hwB
      | false =>
       rw[hmm2] at hmet
       have hl1:=zgH HC1.out.names mn false hmet
       simp only[Bool.false_eq_true,if_false] at hl1
       have hgc:=HGC.out
       rw[if_neg (by rw[hmm2];decide)] at hgc
       have HGD:=hid hgc
       have HME:=hid hmet
       have HMM2:=hid hmm2
       clear hmet hmm2 hgc
       rw[HNM.out]
       by_cases h200:200<fl
       ·
        have HX1:Hid (x=((k:Int),-1,4)):=by rw[Hid,HGD.out,if_pos (by rw[←HFL.out];exact h200)]
        go_wp2
        refine bodyPost_ret (v:=.tuple #[zc7 ((k:Int),-1,4),.int .u8 9]) ?_ rfl ⟨?_,?_⟩
        ·
         simp[results,Tryz.results81,go_sem,zc7,x0,x1,x2]
        ·
         rw[HX1.out];rfl
        ·
         (with_reducible repeat first|exact Below.refl _ _|refine pzA ?_ _|refine pzB ?_ _|refine zab ?_ _|refine Below.drew ?_)
         exact HC1.out.below.mono hwB
       ·
        have hgd2:=HGD.out
        rw[if_neg (by rw[←HFL.out];exact h200)] at hgd2
        have HGE:=hid hgd2
        clear hgd2
        obtain⟨w2,hup,hm2,hgr,hsz,hoth⟩:=zkn HC1.out.names mn HME.out
        have hmbne:mb≠B+1:=zbZ HC1.out.names d0
        have e0:w2.cell? ⟨mb,0,none⟩=some (.string mn):=(World.cell?_of_block (hoth mb hmbne)).trans d0
        have e1:w2.cell? ⟨mb,1,none⟩=some (.slice fa fl fcap):=(World.cell?_of_block (hoth mb hmbne)).trans d1
        have hg1:=hgr w1 (zl1 _ _)
        have HC2:Hid (zbM w B (en++[(mn,one)]) es w2):=
         ⟨hm2,(hoth _ (by omega)).trans HC1.out.seen,(hoth _ (by omega)).trans HC1.out.box,HC1.out.below.trans ⟨hg1.os,hg1.tape,hg1.output,hg1.size,fun q hq=>hoth q (by omega)⟩⟩
        clear hm2 hgr hoth hg1 hmbne hsz
        go_wp2
        go_loopw [59] (fun v59 wi=>∃ j:Nat,j≤fl∧v59= .int .i64 j∧Hid (zao n (mf.take j) (mf.drop j) j=zao n [] mf 0)∧Hid (∃ es,zbM w B (en++[(mn,one)]) es wi∧zbR k (mf.take j) es)) (fun v59 _=>fl - (intOf v59).toNat)
        case atStart=>exact⟨0,by omega,rfl,hid rfl,es,HC2.out,HSI.out⟩
        case round =>
         obtain⟨j,hj,rfl,HJ,HEI⟩:=hrel
         by_cases hjl:j<fl
         ·
          obtain⟨es2,HC3,HS3⟩:∃ es,Hid (zbM w B (en++[(mn,one)]) es wr)∧Hid (zbR k (mf.take j) es):=HEI.out
          have hfi:za4 wr (.slice fa mf.length fcap) mf:=HFS.out.keep fun p u hu=>(Below.cell (p:=p) HC3.out.below (by rw[HB.out];exact World.block_lt_of_cell? w p hu)).trans hu
          obtain⟨-,fa',fcap',hv',hfat⟩:=hfi.open
          cases hv'
          rw[←HFL.out] at hfat
          obtain⟨fb,fo,hfa,hfok,g0,g1,g2,g3,g4,g5⟩:=hfat j hjl
          have hixf:=zad Tryz.underlying62 zbW hfa j hjl (cap:=fcap)
          have HFA:=hid hfa
          clear hfa hfat hfi
          obtain⟨f,HF⟩:∃ f,Hid (f=mf.getD j .zero):=⟨_,rfl⟩
          rw[←HF.out] at hfok g0 g1 g2 g3 g4 g5
          have HFO:=hid hfok
          clear hfok
          have hfst:=zeF n mf j (by rw[←HFL.out];exact hjl)
          rw[HJ.out,←HF.out] at hfst
          have HST:=hid hfst
          clear hfst
          go_wp2_with fail
          refine zjn _ (fun w4=>Hid (zbM w B (en++[(mn,one)]) es2 w4)) (HC3.out.alloc _) ?_
          intro w4 HC4
          refine (zjo (f:=f) (n:=n) HFO.out HC4.out.seen (za7 (mf.take j) f.name) (zbx (mf.take j) f.number) (HS3.out.name _) (HS3.out.num _)).mono ?_
          rintro e w5 ⟨rfl,hpost⟩
          have HPO:=hid hpost
          clear hpost
          obtain⟨K,HKK⟩:∃ K,Hid (K=zax n (za7 (mf.take j) f.name) (zbx (mf.take j) f.number) f):=⟨_,rfl⟩
          rw[←HKK.out] at HST HPO ⊢
          by_cases hK:K=0
          ·
           subst hK
           have hfo2:=zbL HKK.out.symm
           have hp:zas w5 (B+1+1) zd7 ((es2++[((((k:Int),f.name,0):Met),one)])++[((((k:Int),⟨#[]⟩,f.number):Met),one)])∧w4.grownBy w5 (some (B+1+1)):=HPO.out
           have HC5:Hid (zbM w B (en++[(mn,one)]) ((es2++[((((k:Int),f.name,0):Met),one)])++[((((k:Int),⟨#[]⟩,f.number):Met),one)]) w5):=by
            have h1:=HC4.out.names.lt
            have h2:=HC4.out.seen.lt
            refine⟨(hp.2.block _ h1 (by simp)).trans HC4.out.names,hp.1,(hp.2.block _ (by omega) (by simp;omega)).trans HC4.out.box,HC4.out.below.trans ⟨hp.2.os,hp.2.tape,hp.2.output,hp.2.size,fun q hq=>hp.2.block q (by omega) (by simp;omega)⟩⟩
           have HS5:Hid (zbR k (mf.take (j+1)) ((es2++[((((k:Int),f.name,0):Met),one)])++[((((k:Int),⟨#[]⟩,f.number):Met),one)])):=by
            have e:mf.take (j+1)=mf.take j++[f]:=by
             rw[HF.out,List.take_succ_eq_append_getElem (by rw[←HFL.out];exact hjl)]
             simp[List.getD,show j<mf.length by rw[←HFL.out];exact hjl]
            rw[Hid,e]
            exact HS3.out.step hfo2.1 hfo2.2.2.1
           clear hp hfo2
           go_wp2
           go_roundw
           case rel =>
            refine⟨j+1,by omega,by go_num,?_,_,HC5.out,HS5.out⟩
            have:=HST.out
            first|exact this.symm|(rw[if_pos trivial] at this;exact this.symm)
           case measure=>simp[intOf];omega
          ·
           have hp:zas w5 (B+1+1) zd7 es2∧w4.grownBy w5 (some (B+1+1)):=by
            have:=HPO.out
            unfold zcP at this
            rw[if_neg hK] at this
            exact this
           have h1:=HC4.out.names.lt
           have h2:=HC4.out.seen.lt
           have hb5:zpS w5 B:=(hp.2.block _ (by omega) (by simp;omega)).trans HC4.out.box
           have HB5:Hid (Below B w w5):=HC4.out.below.trans ⟨hp.2.os,hp.2.tape,hp.2.output,hp.2.size,fun q hq=>hp.2.block q (by omega) (by simp;omega)⟩
           obtain⟨z0,z1,z2,t0,t1,t2,hBl5⟩:=hb5.cells
           have HX1:Hid (x=((k:Int),(j:Int),K)):=by
            have:=HST.out
            rw[if_neg hK] at this
            rw[Hid,HGE.out,this]
           have hK1:((K:Int) == 0)=false:=by simp;omega
           have HK0:=hid hK
           clear hK hp h1 h2 hb5
           go_wp2
           refine bodyPost_ret (v:=.tuple #[zc7 ((k:Int),(j:Int),K),.int .u8 9]) ?_ rfl ⟨?_,?_⟩
           ·
            simp[results,Tryz.results81,go_sem,zc7,z0,z1,z2]
           ·
            rw[HX1.out];simp[zjp,HK0.out]
           ·
            (with_reducible repeat first|exact Below.refl _ _|refine pzA ?_ _|refine pzB ?_ _|refine zab ?_ _|refine Below.drew ?_)
            exact HB5.out.mono hwB
         ·
          obtain rfl:j=fl:=by omega
          obtain⟨es2,HC3,HS3⟩:∃ es,Hid (zbM w B (en++[(mn,one)]) es wr)∧Hid (zbR k (mf.take j) es):=HEI.out
          go_wp2
          go_roundw
          case rel =>
           have e:s.take (k+1)=s.take k++[⟨mn,mf⟩]:=by
            rw[List.take_succ_eq_append_getElem (by rw[←HN.out];exact hlt)]
            congr 1
            have hx:=HM.out
            simp only[List.getD,List.getElem?_eq_getElem (show k<s.length by rw[←HN.out];exact hlt),Option.getD_some] at hx
            rw[←hx]
           refine⟨k+1,by omega,by go_num,?_,_,_,HC3.out,?_,?_⟩
           ·
            have h1:=HJ.out
            rw[HFL.out,List.drop_length] at h1
            have h2:=HGE.out
            rw[←h1] at h2
            simp only[zao] at h2
            exact h2.symm
           ·
            rw[e]
            exact zdF.step HNI.out ⟨mn,mf⟩
           ·
            have:=HS3.out.next
            simpa using this
          case measure=>simp[intOf];omega
     ·
      have hnm2:zan mn=false:=by simpa using hnm
      have HX1:Hid (x=((k:Int),-1,2)):=by rw[Hid,HGA.out,if_pos hnm2]
      have HNM:=hid hnm2
      clear hnm hnm2
      rw[HNM.out]
      go_wp2
      refine bodyPost_ret (v:=.tuple #[zc7 ((k:Int),-1,2),.int .u8 9]) ?_ rfl ⟨?_,?_⟩
      ·
       simp[results,Tryz.results81,go_sem,zc7,x0,x1,x2]
      ·
       rw[HX1.out];rfl
      ·
       (with_reducible repeat first|exact Below.refl _ _|refine pzA ?_ _|refine pzB ?_ _|refine zab ?_ _|refine Below.drew ?_)
       exact HC1.out.below.mono hwB
   ·
    obtain⟨en,es,HCI,-,-⟩:∃ en es,Hid (zbM w B en es wr)∧Hid (zdF (s.take k) en)∧Hid (zbR k [] es):=HI.out
    obtain⟨x0,x1,x2,y0,y1,y2,hBl⟩:=HCI.out.box.cells
    have HX1:Hid (x=(0,0,0)):=by
     have h1:=HK.out
     rw[List.drop_of_length_le (by rw[←HN.out];omega)] at h1
     exact h1.symm
    go_wp2
    refine bodyPost_ret (v:=.tuple #[zc7 (0,0,0),.int .u8 0]) ?_ rfl ⟨?_,?_⟩
    ·
     simp[results,Tryz.results81,go_sem,zc7,x0,x1,x2]
    ·
     rw[HX1.out];rfl
    ·
     (with_reducible repeat first|exact Below.refl _ _|refine pzA ?_ _|refine pzB ?_ _|refine zab ?_ _|refine Below.drew ?_)
     exact HCI.out.below.mono hwB
theorem zct {w:World}{v:Value}{s:List Mes}(h:zaj w v s) :
  Calls Tryz.prog 48 #[v] w fun e w'=>e= .returned (.bool (zaC s))∧Below w.heap.size w w':=by
 have H:Hid (zaC s=decide (zjp (zbj s)=0)):=by
  unfold Hid zaC zjp
  by_cases e:(zbj s).2.2=0 <;> simp[e]
 obtain⟨x,HX⟩:∃ x,Hid (x=zbj s):=⟨_,rfl⟩
 obtain⟨c,HC⟩:∃ c,Hid (c=zjp x):=⟨_,rfl⟩
 go_enter Tryz.func48,Tryz.ntmps48
 go_wp2_with (go_at_call 81;refine (zjq h).mono ?_;rintro e w1 ⟨rfl,hb⟩;rw[←HX.out,←HC.out];unfold zc7)
 go_ret
 have hz:w.heap.size≤w1.heap.size:=hb.size
 refine⟨zcG ?_,by (with_reducible repeat first|exact Below.refl _ _|refine pzA ?_ _|refine pzB ?_ _|refine zab ?_ _|refine Below.drew ?_);exact hb⟩
 rw[H.out,←HX.out,←HC.out]
 show Value.bool (c == 0)=_
 congr 1
end
section
open Go.RowKit
theorem zjr (fs:List Fld)(j:Nat)(t:ByteArray)(hj:j<fs.length):za7 (fs.take (j+1)) t=(za7 (fs.take j) t||decide ((fs.getD j .zero).name=t)):=by
 have e:fs.getD j .zero=fs[j]:=by simp[List.getD,hj]
 rw[List.take_succ_eq_append_getElem hj,e]
 simp only[za7,List.any_append,List.any_cons,List.any_nil,Bool.or_false]
theorem zko (fs:List Fld)(j:Nat)(x:Int)(hj:j<fs.length):zbx (fs.take (j+1)) x=(zbx (fs.take j) x||decide ((fs.getD j .zero).number=x)):=by
 have e:fs.getD j .zero=fs[j]:=by simp[List.getD,hj]
 rw[List.take_succ_eq_append_getElem hj,e]
 simp only[zbx,List.any_append,List.any_cons,List.any_nil,Bool.or_false]
theorem znd (a b:ByteArray):(a.toList == b.toList)=decide (a=b):=by
 rw[Bool.eq_iff_iff,beq_iff_eq,toList_inj,decide_eq_true_iff]
def zne (w:World)(B:Nat)(f:Fld):Prop:=w.heap[B]?=some (.cells #[.string f.name,.int .i64 f.number,.int .i64 f.kind,.bool f.rep,.bool f.packed,.int .i64 f.of] 51 (0,0))
theorem zne.cells {w:World}{B:Nat}{f:Fld}(h:zne w B f):w.cell? ⟨B,0,none⟩=some (.string f.name)∧w.cell? ⟨B,1,none⟩=some (.int .i64 f.number)∧w.cell? ⟨B,2,none⟩=some (.int .i64 f.kind) ∧
  w.cell? ⟨B,3,none⟩=some (.bool f.rep)∧w.cell? ⟨B,4,none⟩=some (.bool f.packed)∧w.cell? ⟨B,5,none⟩=some (.int .i64 f.of)∧B<w.heap.size:=by
 unfold zne at h
 refine⟨by simp[World.cell?,h],by simp[World.cell?,h],by simp[World.cell?,h],by simp[World.cell?,h],by simp[World.cell?,h],by simp[World.cell?,h],?_⟩
 rw[Array.getElem?_eq_some_iff] at h
 exact h.1
theorem zkp {w:World}{v:Value}{s:List Mes}(h:zaj w v s)(i k:Nat)(hi:i<s.length)(fs:List Fld)(hfs:fs=(s.getD i .zero).fields)(hk:k<fs.length)(f:Fld)(hf:f=fs.getD k .zero) :
  Calls Tryz.prog 135 #[v,.int .i64 i,.int .i64 k] w fun e w'=>e= .returned (.int .i64 (zax s.length (za7 (fs.take k) f.name) (zbx (fs.take k) f.number) f))∧Below w.heap.size w w':=by
 obtain⟨hlen,a,cap,rfl,hat⟩:=h.open
 obtain⟨n,HN⟩:∃ n,Hid (n=s.length):=⟨_,rfl⟩
 obtain⟨b,o,fv,ha,hnsz,hc0,hc1,hfat0⟩:=hat i hi
 rw[←HN.out] at hlen hi ⊢
 have hix:=zad Tryz.underlying23 zbV ha i hi (cap:=cap)
 have hbl:b<w.heap.size:=World.block_lt_of_cell? w _ hc0
 rw[←hfs] at hfat0
 obtain⟨hflen,fa,fcap,rfl,hfat⟩:=hfat0.open
 obtain⟨fl,HFL⟩:∃ fl,Hid (fl=fs.length):=⟨_,rfl⟩
 rw[←HFL.out] at hfat hflen hc1 hk
 obtain⟨fb,fo,hfa,hfok,g0,g1,g2,g3,g4,g5⟩:=hfat k hk
 rw[←hf] at hfok g0 g1 g2 g3 g4 g5
 have hixf:=zad Tryz.underlying62 zbW hfa k hk (cap:=fcap)
 have hfbl:fb<w.heap.size:=World.block_lt_of_cell? w _ g0
 have HFAT:=hid hfat
 have HA:=hid ha
 have HFA:=hid hfa
 have HF:=hid hf
 have HFS:=hid hfs
 clear ha hfa hfat hat hfat0 hf hfs
 obtain⟨hk1,hk2,hk3,hk4⟩:=hfok
 obtain⟨nm,HNM⟩:∃ nm,Hid (nm=za7 (fs.take k) f.name):=⟨_,rfl⟩
 obtain⟨nu,HNU⟩:∃ nu,Hid (nu=zbx (fs.take k) f.number):=⟨_,rfl⟩
 rw[←HNM.out,←HNU.out]
 obtain⟨K,HKF⟩:∃ K,Hid (K=zax n nm nu f):=⟨_,rfl⟩
 rw[←HKF.out]
 unfold zax at HKF
 obtain⟨B,HB⟩:∃ B,Hid (B=w.heap.size):=⟨_,rfl⟩
 have hwB:w.heap.size≤B:=by rw[HB.out];exact Nat.le_refl _
 go_enter Tryz.func135,Tryz.ntmps135
 go_wp2
 rw[←HB.out]
 go_loopw [8,9,10] (fun v8 v9 v10 wr=>∃ j:Nat,j≤k∧v10= .int .i64 j∧v8= .bool (za7 (fs.take j) f.name)∧v9= .bool (zbx (fs.take j) f.number)∧Hid (Below B w wr∧zne wr B f)) (fun _ _ v10 _=>k - (intOf v10).toNat)
 case atStart =>
  refine⟨0,by omega,rfl,rfl,rfl,?_,?_⟩
  ·
   rw[HB.out];(with_reducible repeat first|exact Below.refl _ _|refine pzA ?_ _|refine pzB ?_ _|refine zab ?_ _|refine Below.drew ?_)
  ·
   unfold zne;rw[HB.out];exact heap_alloc_new w _
 case round =>
  obtain⟨j,hj,rfl,rfl,rfl,HW⟩:=hrel
  have hkw:∀ p u,w.cell? p=some u→wr.cell? p=some u:=fun p u hu=>(Below.cell (p:=p) HW.out.1 (by rw[HB.out];exact World.block_lt_of_cell? w p hu)).trans hu
  have c0:=hkw _ _ hc0
  have c1:=hkw _ _ hc1
  have HKW:=hid hkw
  clear hkw
  obtain⟨x0,x1,x2,x3,x4,x5,hBl⟩:=HW.out.2.cells
  obtain⟨bn,HBN⟩:∃ bn,Hid (bn=za7 (fs.take j) f.name):=⟨_,rfl⟩
  obtain⟨bu,HBU⟩:∃ bu,Hid (bu=zbx (fs.take j) f.number):=⟨_,rfl⟩
  rw[←HBN.out,←HBU.out]
  by_cases hlt:j<k
  ·
   have hfat:=HFAT.out
   obtain⟨fb2,fo2,hfa2,-,q0,q1,-,-,-,-⟩:=hfat j (by omega)
   have hixj:=zad Tryz.underlying62 zbW hfa2 j (len:=fl) (by omega) (cap:=fcap)
   have hkw:=HKW.out
   have r0:=hkw _ _ q0
   have r1:=hkw _ _ q1
   have HFA2:=hid hfa2
   clear hkw hfa2 hfat q0 q1
   obtain⟨g,HG⟩:∃ g,Hid (g=fs.getD j .zero):=⟨_,rfl⟩
   rw[←HG.out] at r0 r1
   have hb1:=znd g.name f.name
   have HN1:=hid (zjr fs j f.name (by rw[←HFL.out];omega))
   have HN2:=hid (zko fs j f.number (by rw[←HFL.out];omega))
   rw[←HBN.out,←HG.out] at HN1
   rw[←HBU.out,←HG.out] at HN2
   cases bn <;> cases bu
   all_goals
    go_wp2
    go_quiet (fail)
    go_wp2
    go_quiet (fail)
    go_wp2
    go_roundw
    case rel =>
     refine⟨j+1,by omega,by go_num,?_,?_,?_,?_⟩
     ·
      rw[HN1.out];simp
     ·
      rw[HN2.out];simp <;> rfl
     ·
      exact zab HW.out.1 _
     ·
      exact HW.out.2
    case measure=>simp[intOf];omega
  ·
   obtain rfl:j=k:=by omega
   obtain rfl:bn=nm:=by rw[HBN.out,HNM.out]
   obtain rfl:bu=nu:=by rw[HBU.out,HNU.out]
   have hbel:Below B w wr:=HW.out.1
   have HBEL:=hid hbel
   clear hbel
   obtain⟨name,number,kind,rep,packed,of⟩:=f
   simp only at x0 x1 x2 x3 x4 x5 HKF hk1 hk2 hk3 hk4
   go_wp2_with fail
   refine (zhV name (by omega) _).mono ?_
   rintro e w' ⟨rfl,rfl⟩
   by_cases hN:zan name=true
   ·
    have HNO:=hid hN
    clear hN
    rw[HNO.out]
    have hkf:=HKF.out
    rw[if_neg (by rw[HNO.out];decide)] at hkf
    have HK1:=hid hkf
    clear hkf
    cases bn with
    | true =>
     go_wp2
     go_ret
     obtain rfl:K=6:=HK1.out.trans rfl
     exact⟨rfl,by (with_reducible repeat first|exact Below.refl _ _|refine pzA ?_ _|refine pzB ?_ _|refine zab ?_ _|refine Below.drew ?_);exact HBEL.out.mono hwB⟩
    | false =>
     have hkf:=HK1.out
     rw[if_neg (by decide)] at hkf
     have HK2:=hid hkf
     clear hkf
     have HNU2:Hid (zdE number=false↔(number<1∨536870911<number∨19000≤number∧number<20000)):=by simp[Hid,zdE];omega
     rcases (show number<1∨(1≤number∧number<19000)∨(19000≤number∧number<20000)∨(20000≤number∧number≤536870911)∨536870911<number by omega) with hx|hx|hx|hx|hx
     ·
      have HU:Hid (zdE number=false):=HNU2.out.2 (by omega)
      have d1:decide (number<1)=true:=by simp;omega
      clear hx
      go_wp2
      go_ret
      obtain rfl:K=7:=by rw[HK2.out,if_pos HU.out]
      exact⟨rfl,by (with_reducible repeat first|exact Below.refl _ _|refine pzA ?_ _|refine pzB ?_ _|refine zab ?_ _|refine Below.drew ?_);exact HBEL.out.mono hwB⟩
     ·
      have HU:Hid (¬ zdE number=false):=fun e=>by have:=HNU2.out.1 e;omega
      have d1:decide (number<1)=false:=by simp;omega
      have d2:decide (536870911<number)=false:=by simp;omega
      have d3:decide (19000≤number)=false:=by simp;omega
      clear hx
      have hkf:=HK2.out
      rw[if_neg HU.out] at hkf
      have HK3:=hid hkf
      clear hkf
      cases bu with
      | true =>
       go_wp2
       go_ret
       obtain rfl:K=8:=HK3.out.trans rfl
       exact⟨rfl,by (with_reducible repeat first|exact Below.refl _ _|refine pzA ?_ _|refine pzB ?_ _|refine zab ?_ _|refine Below.drew ?_);exact HBEL.out.mono hwB⟩
      | false =>
       have hkf:=HK3.out
       rw[if_neg (by decide)] at hkf
       have HK4:=hid hkf
       clear hkf
       by_cases hK:zaU kind=true
       ·
        have HK:=hid hK
        clear hK
        have hkf:=HK4.out
        rw[if_neg (by rw[HK.out];decide)] at hkf
        have HK5:=hid hkf
        clear hkf
        go_wp2_with fail
        refine (zci _ _).mono ?_
        rintro e w' ⟨rfl,rfl⟩
        rw[HK.out]
        cases packed with
        | false =>
         have hkf:=HK5.out
         rw[if_neg (by simp)] at hkf
         have HK6:=hid hkf
         clear hkf
         by_cases h17:kind=17
         ·
          by_cases ho:of<0∨(n:Int)≤of
          ·
           have HO:Hid (K=11):=by rw[HK6.out];exact if_pos (.inl ⟨h17,ho⟩)
           subst h17
           rcases ho with ho|ho
           ·
            go_wp2
            go_ret
            obtain rfl:K=11:=HO.out
            exact⟨rfl,by (with_reducible repeat first|exact Below.refl _ _|refine pzA ?_ _|refine pzB ?_ _|refine zab ?_ _|refine Below.drew ?_);exact HBEL.out.mono hwB⟩
           ·
            have ho2:0≤of:=by omega
            go_wp2
            go_ret
            obtain rfl:K=11:=HO.out
            exact⟨rfl,by (with_reducible repeat first|exact Below.refl _ _|refine pzA ?_ _|refine pzB ?_ _|refine zab ?_ _|refine Below.drew ?_);exact HBEL.out.mono hwB⟩
          ·
           have HO:Hid (K=0):=by rw[HK6.out];exact if_neg (by omega)
           have ho1:0≤of:=by omega
           have ho2:of<(n:Int):=by omega
           clear ho
           subst h17
           go_wp2
           go_ret
           obtain rfl:K=0:=HO.out
           exact⟨rfl,by (with_reducible repeat first|exact Below.refl _ _|refine pzA ?_ _|refine pzB ?_ _|refine zab ?_ _|refine Below.drew ?_);exact HBEL.out.mono hwB⟩
         ·
          have h17':(kind == 17)=false:=by simpa using h17
          have h17b:(kind != 17)=true:=by simpa using h17
          by_cases ho:of=0
          ·
           have HO:Hid (K=0):=by rw[HK6.out];exact if_neg (by omega)
           have H17:=hid h17
           clear h17
           subst ho
           go_wp2
           go_ret
           obtain rfl:K=0:=HO.out
           exact⟨rfl,by (with_reducible repeat first|exact Below.refl _ _|refine pzA ?_ _|refine pzB ?_ _|refine zab ?_ _|refine Below.drew ?_);exact HBEL.out.mono hwB⟩
          ·
           have HO:Hid (K=11):=by rw[HK6.out];exact if_pos (.inr ⟨h17,ho⟩)
           have ho':(of == 0)=false:=by simpa using ho
           have hob:(of != 0)=true:=by simpa using ho
           have H17:=hid h17
           have HO2:=hid ho
           clear h17 ho
           go_wp2
           go_ret
           obtain rfl:K=11:=HO.out
           exact⟨rfl,by (with_reducible repeat first|exact Below.refl _ _|refine pzA ?_ _|refine pzB ?_ _|refine zab ?_ _|refine Below.drew ?_);exact HBEL.out.mono hwB⟩
        | true =>
         cases rep with
         | false =>
          have HO:Hid (K=10):=by rw[HK5.out];exact if_pos ⟨rfl,.inl rfl⟩
          go_wp2
          go_ret
          obtain rfl:K=10:=HO.out
          exact⟨rfl,by (with_reducible repeat first|exact Below.refl _ _|refine pzA ?_ _|refine pzB ?_ _|refine zab ?_ _|refine Below.drew ?_);exact HBEL.out.mono hwB⟩
         | true =>
          by_cases hKN:zaw kind=true
          ·
           have hkf:=HK5.out
           rw[if_neg (by simp[hKN])] at hkf
           have HK6:=hid hkf
           have HKN:=hid hKN
           clear hkf hKN
           go_wp2_with fail
           refine (zb4 _ _).mono ?_
           rintro e w' ⟨rfl,rfl⟩
           rw[HKN.out]
           by_cases h17:kind=17
           ·
            exfalso
            have:=HKN.out
            subst h17
            revert this
            decide
           ·
            have h17':(kind == 17)=false:=by simpa using h17
            have h17b:(kind != 17)=true:=by simpa using h17
            by_cases ho:of=0
            ·
             have HO:Hid (K=0):=by rw[HK6.out];exact if_neg (by omega)
             have H17:=hid h17
             clear h17
             subst ho
             go_wp2
             go_ret
             obtain rfl:K=0:=HO.out
             exact⟨rfl,by (with_reducible repeat first|exact Below.refl _ _|refine pzA ?_ _|refine pzB ?_ _|refine zab ?_ _|refine Below.drew ?_);exact HBEL.out.mono hwB⟩
            ·
             have HO:Hid (K=11):=by rw[HK6.out];exact if_pos (.inr ⟨h17,ho⟩)
             have ho':(of == 0)=false:=by simpa using ho
             have hob:(of != 0)=true:=by simpa using ho
             have H17:=hid h17
             have HO2:=hid ho
             clear h17 ho
             go_wp2
             go_ret
             obtain rfl:K=11:=HO.out
             exact⟨rfl,by (with_reducible repeat first|exact Below.refl _ _|refine pzA ?_ _|refine pzB ?_ _|refine zab ?_ _|refine Below.drew ?_);exact HBEL.out.mono hwB⟩
          ·
           have hKN2:zaw kind=false:=by simpa using hKN
           have HO:Hid (K=10):=by rw[HK5.out];exact if_pos ⟨rfl,.inr hKN2⟩
           have HKN:=hid hKN2
           clear hKN hKN2
           go_wp2_with fail
           refine (zb4 _ _).mono ?_
           rintro e w' ⟨rfl,rfl⟩
           rw[HKN.out]
           go_wp2
           go_ret
           obtain rfl:K=10:=HO.out
           exact⟨rfl,by (with_reducible repeat first|exact Below.refl _ _|refine pzA ?_ _|refine pzB ?_ _|refine zab ?_ _|refine Below.drew ?_);exact HBEL.out.mono hwB⟩
       ·
        have hK2:zaU kind=false:=by simpa using hK
        have HK:=hid hK2
        clear hK hK2
        go_wp2_with fail
        refine (zci _ _).mono ?_
        rintro e w' ⟨rfl,rfl⟩
        rw[HK.out]
        go_wp2
        go_ret
        obtain rfl:K=9:=by rw[HK4.out,if_pos HK.out]
        exact⟨rfl,by (with_reducible repeat first|exact Below.refl _ _|refine pzA ?_ _|refine pzB ?_ _|refine zab ?_ _|refine Below.drew ?_);exact HBEL.out.mono hwB⟩
     ·
      have HU:Hid (zdE number=false):=HNU2.out.2 (by omega)
      have d1:decide (number<1)=false:=by simp;omega
      have d2:decide (536870911<number)=false:=by simp;omega
      have d3:decide (19000≤number)=true:=by simp;omega
      have d4:decide (number<20000)=true:=by simp;omega
      clear hx
      go_wp2
      go_ret
      obtain rfl:K=7:=by rw[HK2.out,if_pos HU.out]
      exact⟨rfl,by (with_reducible repeat first|exact Below.refl _ _|refine pzA ?_ _|refine pzB ?_ _|refine zab ?_ _|refine Below.drew ?_);exact HBEL.out.mono hwB⟩
     ·
      have HU:Hid (¬ zdE number=false):=fun e=>by have:=HNU2.out.1 e;omega
      have d1:decide (number<1)=false:=by simp;omega
      have d2:decide (536870911<number)=false:=by simp;omega
      have d3:decide (19000≤number)=true:=by simp;omega
      have d4:decide (number<20000)=false:=by simp;omega
      clear hx
      have hkf:=HK2.out
      rw[if_neg HU.out] at hkf
      have HK3:=hid hkf
      clear hkf
      cases bu with
      | true =>
       go_wp2
       go_ret
       obtain rfl:K=8:=HK3.out.trans rfl
       exact⟨rfl,by (with_reducible repeat first|exact Below.refl _ _|refine pzA ?_ _|refine pzB ?_ _|refine zab ?_ _|refine Below.drew ?_);exact HBEL.out.mono hwB⟩
      | false =>
       have hkf:=HK3.out
       rw[if_neg (by decide)] at hkf
       have HK4:=hid hkf
       clear hkf
       by_cases hK:zaU kind=true
       ·
        have HK:=hid hK
        clear hK
        have hkf:=HK4.out
        rw[if_neg (by rw[HK.out];decide)] at hkf
        have HK5:=hid hkf
        clear hkf
        go_wp2_with fail
        refine (zci _ _).mono ?_
        rintro e w' ⟨rfl,rfl⟩
        rw[HK.out]
        cases packed with
        | false =>
         have hkf:=HK5.out
         rw[if_neg (by simp)] at hkf
         have HK6:=hid hkf
         clear hkf
         by_cases h17:kind=17
         ·
          by_cases ho:of<0∨(n:Int)≤of
          ·
           have HO:Hid (K=11):=by rw[HK6.out];exact if_pos (.inl ⟨h17,ho⟩)
           subst h17
           rcases ho with ho|ho
           ·
            go_wp2
            go_ret
            obtain rfl:K=11:=HO.out
            exact⟨rfl,by (with_reducible repeat first|exact Below.refl _ _|refine pzA ?_ _|refine pzB ?_ _|refine zab ?_ _|refine Below.drew ?_);exact HBEL.out.mono hwB⟩
           ·
            have ho2:0≤of:=by omega
            go_wp2
            go_ret
            obtain rfl:K=11:=HO.out
            exact⟨rfl,by (with_reducible repeat first|exact Below.refl _ _|refine pzA ?_ _|refine pzB ?_ _|refine zab ?_ _|refine Below.drew ?_);exact HBEL.out.mono hwB⟩
          ·
           have HO:Hid (K=0):=by rw[HK6.out];exact if_neg (by omega)
           have ho1:0≤of:=by omega
           have ho2:of<(n:Int):=by omega
           clear ho
           subst h17
           go_wp2
           go_ret
           obtain rfl:K=0:=HO.out
           exact⟨rfl,by (with_reducible repeat first|exact Below.refl _ _|refine pzA ?_ _|refine pzB ?_ _|refine zab ?_ _|refine Below.drew ?_);exact HBEL.out.mono hwB⟩
         ·
          have h17':(kind == 17)=false:=by simpa using h17
          have h17b:(kind != 17)=true:=by simpa using h17
          by_cases ho:of=0
          ·
           have HO:Hid (K=0):=by rw[HK6.out];exact if_neg (by omega)
           have H17:=hid h17
           clear h17
           subst ho
           go_wp2
           go_ret
           obtain rfl:K=0:=HO.out
           exact⟨rfl,by (with_reducible repeat first|exact Below.refl _ _|refine pzA ?_ _|refine pzB ?_ _|refine zab ?_ _|refine Below.drew ?_);exact HBEL.out.mono hwB⟩
          ·
           have HO:Hid (K=11):=by rw[HK6.out];exact if_pos (.inr ⟨h17,ho⟩)
           have ho':(of == 0)=false:=by simpa using ho
           have hob:(of != 0)=true:=by simpa using ho
           have H17:=hid h17
           have HO2:=hid ho
           clear h17 ho
           go_wp2
           go_ret
           obtain rfl:K=11:=HO.out
           exact⟨rfl,by (with_reducible repeat first|exact Below.refl _ _|refine pzA ?_ _|refine pzB ?_ _|refine zab ?_ _|refine Below.drew ?_);exact HBEL.out.mono hwB⟩
        | true =>
         cases rep with
         | false =>
          have HO:Hid (K=10):=by rw[HK5.out];exact if_pos ⟨rfl,.inl rfl⟩
          go_wp2
          go_ret
          obtain rfl:K=10:=HO.out
          exact⟨rfl,by (with_reducible repeat first|exact Below.refl _ _|refine pzA ?_ _|refine pzB ?_ _|refine zab ?_ _|refine Below.drew ?_);exact HBEL.out.mono hwB⟩
         | true =>
          by_cases hKN:zaw kind=true
          ·
           have hkf:=HK5.out
           rw[if_neg (by simp[hKN])] at hkf
           have HK6:=hid hkf
           have HKN:=hid hKN
           clear hkf hKN
           go_wp2_with fail
           refine (zb4 _ _).mono ?_
           rintro e w' ⟨rfl,rfl⟩
           rw[HKN.out]
           by_cases h17:kind=17
           ·
            exfalso
            have:=HKN.out
            subst h17
            revert this
            decide
           ·
            have h17':(kind == 17)=false:=by simpa using h17
            have h17b:(kind != 17)=true:=by simpa using h17
            by_cases ho:of=0
            ·
             have HO:Hid (K=0):=by rw[HK6.out];exact if_neg (by omega)
             have H17:=hid h17
             clear h17
             subst ho
             go_wp2
             go_ret
             obtain rfl:K=0:=HO.out
             exact⟨rfl,by (with_reducible repeat first|exact Below.refl _ _|refine pzA ?_ _|refine pzB ?_ _|refine zab ?_ _|refine Below.drew ?_);exact HBEL.out.mono hwB⟩
            ·
             have HO:Hid (K=11):=by rw[HK6.out];exact if_pos (.inr ⟨h17,ho⟩)
             have ho':(of == 0)=false:=by simpa using ho
             have hob:(of != 0)=true:=by simpa using ho
             have H17:=hid h17
             have HO2:=hid ho
             clear h17 ho
             go_wp2
             go_ret
             obtain rfl:K=11:=HO.out
             exact⟨rfl,by (with_reducible repeat first|exact Below.refl _ _|refine pzA ?_ _|refine pzB ?_ _|refine zab ?_ _|refine Below.drew ?_);exact HBEL.out.mono hwB⟩
          ·
           have hKN2:zaw kind=false:=by simpa using hKN
           have HO:Hid (K=10):=by rw[HK5.out];exact if_pos ⟨rfl,.inr hKN2⟩
           have HKN:=hid hKN2
           clear hKN hKN2
           go_wp2_with fail
           refine (zb4 _ _).mono ?_
           rintro e w' ⟨rfl,rfl⟩
           rw[HKN.out]
           go_wp2
           go_ret
           obtain rfl:K=10:=HO.out
           exact⟨rfl,by (with_reducible repeat first|exact Below.refl _ _|refine pzA ?_ _|refine pzB ?_ _|refine zab ?_ _|refine Below.drew ?_);exact HBEL.out.mono hwB⟩
       ·
        have hK2:zaU kind=false:=by simpa using hK
        have HK:=hid hK2
        clear hK hK2
        go_wp2_with fail
        refine (zci _ _).mono ?_
        rintro e w' ⟨rfl,rfl⟩
        rw[HK.out]
        go_wp2
        go_ret
        obtain rfl:K=9:=by rw[HK4.out,if_pos HK.out]
        exact⟨rfl,by (with_reducible repeat first|exact Below.refl _ _|refine pzA ?_ _|refine pzB ?_ _|refine zab ?_ _|refine Below.drew ?_);exact HBEL.out.mono hwB⟩
     ·
      have HU:Hid (zdE number=false):=HNU2.out.2 (by omega)
      have d1:decide (number<1)=false:=by simp;omega
      have d2:decide (536870911<number)=true:=by simp;omega
      clear hx
      go_wp2
      go_ret
      obtain rfl:K=7:=by rw[HK2.out,if_pos HU.out]
      exact⟨rfl,by (with_reducible repeat first|exact Below.refl _ _|refine pzA ?_ _|refine pzB ?_ _|refine zab ?_ _|refine Below.drew ?_);exact HBEL.out.mono hwB⟩
   ·
    have hN2:zan name=false:=by simpa using hN
    have HNO:=hid hN2
    clear hN hN2
    rw[HNO.out]
    go_wp2
    go_ret
    obtain rfl:K=5:=by rw[HKF.out,if_pos HNO.out]
    exact⟨rfl,by (with_reducible repeat first|exact Below.refl _ _|refine pzA ?_ _|refine pzB ?_ _|refine zab ?_ _|refine Below.drew ?_);exact HBEL.out.mono hwB⟩
end
end Go.Proofs.YtdpnmdkbdibkpaaGreatDoor
