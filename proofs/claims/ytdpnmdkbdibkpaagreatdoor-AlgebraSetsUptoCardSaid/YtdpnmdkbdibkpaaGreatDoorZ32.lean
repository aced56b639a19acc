/- Parts of a proof: texts of the author, merged. No condition of their own. -/
import Derived.Test.YtdpnmdkbdibkpaaGreatDoorZ13
import Derived.Test.YtdpnmdkbdibkpaaGreatDoorZ14
import Derived.Test.YtdpnmdkbdibkpaaGreatDoorZ20
import Derived.Test.YtdpnmdkbdibkpaaGreatDoorZ22
import Derived.Test.YtdpnmdkbdibkpaaGreatDoorZ31
namespace Go.Proofs.YtdpnmdkbdibkpaaGreatDoor
set_option maxRecDepth 100000
set_option maxHeartbeats 16000000
section
open Go.RowKit
theorem zi2 {s:List Mes}(h:zaC s=true)(m:Mes)(hm:m∈s)(f:Fld)(hf:f∈m.fields):zan f.name=true:=by
 have h0:(zbj s).2.2=0:=of_decide_eq_true h
 unfold zbj at h0
 by_cases h1:s.length=0∨100<s.length
 ·
  rw[if_pos h1] at h0;simp at h0
 rw[if_neg h1] at h0
 obtain⟨h2,-,-⟩:=zck s [] 0 h0 _ hm
 obtain⟨nm,nu,h3⟩:=zby _ _ _ h2 f hf
 exact (zbL h3).1
theorem zmR {t:List UInt8}(h:zan ⟨t.toArray⟩=true):t.length≤60:=by
 unfold zan at h
 simp[ByteArray.size] at h
 exact h.2.2
theorem zfl {s:List Mes}{at':Nat}{n k:Int}(hk:k=zak (s.getD at' .zero).fields n) :
  (k<0∧zbh s at' n=none)∨∃ j:Nat,k=j∧j<(s.getD at' .zero).fields.length∧zbh s at' n=some ((s.getD at' .zero).fields.getD j .zero):=by
 subst hk
 unfold zbh zak
 rw[Int.toNat_natCast]
 have key:∀ (l:List Fld) (i:Nat),(zah (fun f:Fld=>decide (f.number=n)) l i<0∧l.find? (fun f=>decide (f.number=n))=none)∨∃ j:Nat,zah (fun f:Fld=>decide (f.number=n)) l i=((i+j:Nat):Int)∧j<l.length∧l.find? (fun f=>decide (f.number=n))=some (l.getD j .zero):=by
  intro l
  induction l with
  | nil=>intro i;exact .inl ⟨by simp[zah],rfl⟩
  | cons g r ih =>
   intro i
   simp only[zah]
   by_cases hg:g.number=n
   ·
    exact .inr ⟨0,by simp[hg],by simp,by rw[List.find?_cons_of_pos (by simpa using hg)];rfl⟩
   ·
    rw[List.find?_cons_of_neg (by simpa using hg),if_neg (by simpa using hg)]
    rcases ih (i+1) with h|⟨j,h1,h2,h3⟩
    ·
     exact .inl h
    ·
     exact .inr ⟨j+1,by rw[h1];congr 1;omega,by simp;omega,by rw[h3];simp⟩
 rcases key (s.getD at' .zero).fields 0 with h|⟨j,h1,h2,h3⟩
 ·
  exact .inl h
 ·
  exact .inr ⟨j,by rw[h1,Nat.zero_add],h2,h3⟩
def zhs (w:World)(o:Option (List (List UInt8)))(e:Ending)(w':World):Prop:=
 ∃ (p:List UInt8) (b:Bool),e= .returned (.tuple #[zbA p,.bool b])∧p.length≤137438953472∧(b=true↔∃ ns,o=some ns∧zbU ns=true)∧(b=true→∀ ns,o=some ns→p=zbl ns)∧Below w.heap.size w w'
theorem zmS {w:World}{sv yv:Value}{s:List Mes}{y:List Int}(hS:zaj w sv s)(hs:zaC s=true)(root:Nat)(hroot:root<s.length)(hY:zar w yv y)(hL:y.length≤1073741824) :
  Calls Tryz.prog 32 #[sv,.int .i64 (root:Int),yv] w (zhs w (zaz s root y)):=by
 have HS:=hid hS
 have HSR:=hid hs
 obtain⟨hm,sa,sc,rfl,hsat⟩:=hS.open
 obtain⟨m,HM⟩:∃ m,Hid (m=s.length):=⟨_,rfl⟩
 rw[←HM.out] at hm HS hroot hsat ⊢
 obtain⟨-,ya,yc,rfl,-,hyat⟩:=hY.open
 obtain⟨yn,HYN⟩:∃ n,Hid (n=y.length):=⟨_,rfl⟩
 rw[←HYN.out] at hL ⊢
 obtain⟨Q,HQ⟩:∃ Q:Ending→World→Prop,Hid (Q=zhs w (zaz s root y)):=⟨_,rfl⟩
 rw[←HQ.out]
 have HBAD:Hid (∀ w',Below w.heap.size w w'→zaz s root y=none→Q (.returned (.tuple #[.string ⟨#[]⟩,.bool false])) w'):=by
  intro w' hb h
  rw[HQ.out,h]
  exact⟨[],false,rfl,by simp,by simp,by simp,hb⟩
 have HSAT:=hid hsat
 have HYAT:=hid hyat
 clear hS hs hY hsat hyat
 go_enter Tryz.func32,Tryz.ntmps32
 go_wp2_with fail
 go_loopw [1,8,9] (fun v1 v8 v9 wr=>∃ (at':Int) (q:Nat) (ns:List (List UInt8)),v1= .int .i64 at'∧v9= .int .i64 (q:Int)∧q≤yn∧Hid (zaq wr w.heap.size v8 ns∧Below w.heap.size w wr∧ns.length=q∧zaz s root y=(zaz s at' (y.drop q)).map (ns ++ ·)∧(q<yn→0≤at'∧at'<m)∧∀ t∈ns,zan ⟨t.toArray⟩=true)) (fun _ _ v9 _=>yn - (intOf v9).toNat)
 case atStart=>exact⟨root,0,[],rfl,rfl,by omega,World.ownsRow_nil _ _ _ _,Below.refl _ _,rfl,by simp,fun _=>by omega,by simp⟩
 case round =>
  obtain⟨at0,q,ns,rfl,rfl,hq,HJ⟩:=hrel
  obtain⟨na,nc,hne⟩:=HJ.out.1.form
  rw[HJ.out.2.2.1] at hne
  subst hne
  by_cases hlt:q<yn
  ·
   obtain⟨at',rfl⟩:∃ a:Nat,at0=a:=⟨at0.toNat,by have:=HJ.out.2.2.2.2.1 hlt;omega⟩
   have hatm:at'<m:=by have:=HJ.out.2.2.2.2.1 hlt;omega
   obtain⟨nb,hnb⟩:=zdJ HYN.out hlt
   obtain⟨h64,b2,o2,ha2,g2⟩:=HYAT.out q nb hnb
   have hix2:=zag Tryz.underlying28 zbr ha2 q hlt (cap:=yc)
   have hkp:=zaa HJ.out.2.1
   replace g2:=hkp _ _ g2
   have HDQ:=hid (zbS hnb)
   obtain⟨b1,o1,fv,ha1,hnl,g0,g1,hF⟩:=HSAT.out at' hatm
   have hix1:=zad Tryz.underlying23 zbV ha1 at' hatm (cap:=sc)
   replace g0:=hkp _ _ g0
   replace g1:=hkp _ _ g1
   obtain⟨fs,HFS⟩:∃ fs,Hid (fs=(s.getD at' .zero).fields):=⟨_,rfl⟩
   rw[←HFS.out] at hF
   obtain⟨nm,HNM⟩:∃ nm,Hid (nm=(s.getD at' .zero).name):=⟨_,rfl⟩
   rw[←HNM.out] at g0
   have hF':=hF.keep hkp
   have HFC:=hid (zdG (hF'.keep (w':=wr.drew) fun _ _ h=>h) nm nb)
   obtain⟨hfl,fa,fc,rfl,hfat⟩:=hF'.open
   obtain⟨fn,HFN⟩:∃ fn,Hid (fn=fs.length):=⟨_,rfl⟩
   rw[←HFN.out] at hfl hfat g1 HFC
   have HFAT:=hid hfat
   obtain⟨k,HK⟩:∃ k,Hid (k=zak fs nb):=⟨_,rfl⟩
   rw[←HK.out] at HFC
   have HFO:=hid (zfl (s:=s) (at':=at') (n:=nb) (k:=k) (by rw[←HFS.out];exact HK.out))
   rw[←HFS.out,←HFN.out] at HFO
   clear hnb ha2 h64 ha1 hnl hF hF' hkp hfat
   go_wp2_with fail
   go_still_tail 8,(by kernel_rfl)
   change wpList _ _ _ _ _ wr.drew
   go_wp2_with fail
   refine HFC.out.mono ?_
   rintro e w2 ⟨rfl,hb2'⟩
   have hb2:Below wr.heap.size wr w2:=(Below.refl wr.heap.size wr).drew.trans hb2'
   have HB2:=hid hb2
   have HBW:Hid (Below w.heap.size w w2):=zai HJ.out.2.1 hb2 HJ.out.2.1.size
   have hkp:=zaa hb2
   replace g0:=hkp _ _ g0
   replace g1:=hkp _ _ g1
   clear hb2 hb2' g2
   rcases HFO.out with ⟨hk0,hno⟩|⟨j,hkj,hjn,hso⟩
   ·
    have HX:Hid (zaz s root y=none):=by rw[Hid,HJ.out.2.2.2.1,HDQ.out,zaz,hno];rfl
    have hd:decide (k<0)=true:=decide_eq_true hk0
    clear hk0 hno hkp
    go_wp2_with fail
    exact HBAD.out _ HBW.out HX.out
   ·
    subst hkj
    have hd:decide ((j:Int)<0)=false:=decide_eq_false (by omega)
    obtain⟨b3,o3,ha3,hok,f0,f1,f2,f3,f4,f5⟩:=HFAT.out j hjn
    have hix3:=zad Tryz.underlying62 zbW ha3 j hjn (cap:=fc)
    obtain⟨f,HF⟩:∃ f,Hid (f=fs.getD j .zero):=⟨_,rfl⟩
    rw[←HF.out] at hok f0 f1 f2 f3 f4 f5 hso
    have hfm:f∈(s.getD at' .zero).fields:=by
     rw[←HFS.out,HF.out]
     exact zfk _ _ _ (by rw[←HFN.out];exact hjn)
    have hsm:s.getD at' .zero∈s:=zfk _ _ _ (by rw[←HM.out];exact hatm)
    have HNOK:Hid (zan f.name=true):=zi2 HSR.out _ hsm f hfm
    have HK17:Hid (f.kind=17→0≤f.of∧f.of<m):=by
     have:=(zeb HSR.out at' (by rw[←HM.out];exact hatm) f hfm).2.1
     rw[←HM.out] at this;exact this
    have HNW:Hid (zaz s root y=if y.drop (q+1)≠[]∧(f.rep=true∨f.kind≠17) then none else (zaz s f.of (y.drop (q+1))).map ((ns++[f.name.data.toList]) ++ ·)):=by
     rw[Hid,HJ.out.2.2.2.1,HDQ.out,zaz,hso]
     simp only
     split
     ·
      rfl
     ·
      cases zaz s f.of (y.drop (q+1)) <;> simp
    have HNIL:Hid (y.drop (q+1)≠[]↔q+1<yn):=by
     show _↔_
     rw[HYN.out]
     constructor
     ·
      intro h
      rcases Nat.lt_or_ge (q+1) y.length with h1|h1
      ·
       exact h1
      ·
       exact absurd (List.drop_eq_nil_of_le h1) h
     ·
      intro h e
      have:=congrArg List.length e
      simp at this;omega
    replace f0:=hkp _ _ f0
    replace f1:=hkp _ _ f1
    replace f2:=hkp _ _ f2
    replace f3:=hkp _ _ f3
    replace f4:=hkp _ _ f4
    replace f5:=hkp _ _ f5
    obtain⟨fname,fnum,fkind,frep,fpack,fof⟩:=f
    simp only at HNOK HK17 HNW f0 f1 f2 f3 f4 f5
    obtain⟨W1,HW1⟩:∃ W1,Hid (W1=w2.alloc (.cells #[.string fname,.int .i64 fnum,.int .i64 fkind,.bool frep,.bool fpack,.int .i64 fof] 51)):=⟨_,rfl⟩
    have hbx:Blk W1 w2.heap.size [.string fname,.int .i64 fnum,.int .i64 fkind,.bool frep,.bool fpack,.int .i64 fof] 51:=by rw[HW1.out];exact Blk.new w2 [.string fname,.int .i64 fnum,.int .i64 fkind,.bool frep,.bool fpack,.int .i64 fof] _
    have hb1:Below w2.heap.size w2 W1:=by rw[HW1.out];(with_reducible repeat first|exact Below.refl _ _|refine pzA ?_ _|refine pzB ?_ _|refine zab ?_ _|refine Below.drew ?_)
    have hsv:zbA fname.data.toList= .string fname:=by unfold zbA;simp
    have hB1:Below wr.heap.size wr W1:=zai HB2.out hb1 HB2.out.size
    have hs1:w.heap.size≤W1.heap.size:=Nat.le_trans HJ.out.2.1.size hB1.size
    have hown1:=HJ.out.1.later hB1
    obtain⟨v8,w8,hr8,hO8,hg8⟩:=zaq.one hown1 fname.data.toList (by rw[HJ.out.2.2.1];omega) hs1
    obtain⟨a8,c8,e8⟩:=hO8.form
    rw[List.length_append,List.length_singleton,HJ.out.2.2.1] at e8
    subst e8
    rw[hsv] at hr8
    have hX8:Blk w8 w2.heap.size [.string fname,.int .i64 fnum,.int .i64 fkind,.bool frep,.bool fpack,.int .i64 fof] 51:=(hg8.block _ hbx.lt (fun e=>by have:=(World.ownsRow.lt HJ.out.1 _ e.symm).2;have:=HB2.out.size;omega)).trans hbx
    have HREL:Hid (zaq w8 w.heap.size (.slice a8 (q+1) c8) (ns++[fname.data.toList])∧Below w.heap.size w w8∧(ns++[fname.data.toList]).length=q+1∧∀ t∈ns++[fname.data.toList],zan ⟨t.toArray⟩=true):=by
     refine⟨hO8,(HJ.out.2.1.trans (hB1.mono HJ.out.2.1.size)).grown hg8 hs1 (fun e1 e2=>(World.ownsRow.lt HJ.out.1 e1 e2).1),by rw[List.length_append,HJ.out.2.2.1];rfl,fun t ht=>?_⟩
     rcases List.mem_append.1 ht with ht|ht
     ·
      exact HJ.out.2.2.2.2.2 t ht
     ·
      have e:t=fname.data.toList:=by simpa using ht
      rw[e];exact HNOK.out
    have k0:=hbx.cell 0 _ rfl
    have k2:=hX8.cell 2 _ rfl
    have k3:=hX8.cell 3 _ rfl
    have k5:=hX8.cell 5 _ rfl
    have HR8:=hid hr8
    have HKK:=hid (And.intro k0 (And.intro k2 (And.intro k3 k5)))
    clear hok ha3 hso hfm hsm hkp hbx hb1 hsv hB1 hs1 hown1 hr8 hO8 hg8 hX8 k0 k2 k3 k5
    go_upto_region 9 with fail
    rw[←HW1.out]
    obtain⟨k0,k2,k3,k5⟩:=HKK.out
    clear f0 f1 f2 f3 f4 f5 g0 g1
    by_cases hbad:q+1<yn∧(frep=true∨fkind≠17)
    ·
     have HX:Hid (zaz s root y=none):=by
      rw[Hid,HNW.out,if_pos ⟨HNIL.out.2 hbad.1,hbad.2⟩]
     obtain⟨hb1,hb2⟩:=hbad
     have e1:decide ((q:Int)<(yn:Int) - 1)=true:=decide_eq_true (by omega)
     cases frep with
     | true =>
      go_wp2_with (at_builtin;refine zaf rfl _ _ _ rfl _ _ rfl rfl HR8.out ?_)
      exact HBAD.out _ HREL.out.2.1 HX.out
     | false =>
      have h17:fkind≠17:=by rcases hb2 with h|h;cases h;exact h
      have k1:(fkind != 17)=true:=by simpa using h17
      have k2:(fkind == 17)=false:=by simpa using h17
      clear hb2 h17
      go_wp2_with (at_builtin;refine zaf rfl _ _ _ rfl _ _ rfl rfl HR8.out ?_)
      exact HBAD.out _ HREL.out.2.1 HX.out
    ·
     rw[if_neg (fun h=>hbad ⟨HNIL.out.1 h.1,h.2⟩)] at HNW
     have HRL2:Hid (zaz s root y=(zaz s fof (y.drop (q+1))).map ((ns++[fname.data.toList]) ++ ·)∧(q+1<yn→0≤fof∧fof<m)):=
      ⟨HNW.out,fun h=>HK17.out (Classical.byContradiction fun h17=>hbad ⟨h,.inr h17⟩)⟩
     by_cases hq1:q+1<yn
     ·
      have e1:decide ((q:Int)<(yn:Int) - 1)=true:=decide_eq_true (by omega)
      have hrep:frep=false:=by cases frep;rfl;exact absurd ⟨hq1,.inl rfl⟩ hbad
      have h17:fkind=17:=Classical.byContradiction fun h=>hbad ⟨hq1,.inr h⟩
      subst hrep
      subst h17
      clear hbad
      go_wp2_with (at_builtin;refine zaf rfl _ _ _ rfl _ _ rfl rfl HR8.out ?_)
      go_roundw
      case rel=>exact⟨fof,q+1,_,rfl,by go_num,hlt,HREL.out.1,HREL.out.2.1,HREL.out.2.2.1,HRL2.out.1,HRL2.out.2,HREL.out.2.2.2⟩
      case measure=>simp[intOf];omega
     ·
      have e1:decide ((q:Int)<(yn:Int) - 1)=false:=decide_eq_false (by omega)
      have e2:¬ ((q:Int)<(yn:Int) - 1):=by omega
      clear hbad hq1
      go_wp2_with (at_builtin;refine zaf rfl _ _ _ rfl _ _ rfl rfl HR8.out ?_)
      go_roundw
      case rel=>exact⟨fof,q+1,_,rfl,by go_num,hlt,HREL.out.1,HREL.out.2.1,HREL.out.2.2.1,HRL2.out.1,HRL2.out.2,HREL.out.2.2.2⟩
      case measure=>simp[intOf];omega
  ·
   obtain rfl:q=yn:=by omega
   have HNS:Hid (zaz s root y=some ns):=by
    rw[Hid,HJ.out.2.2.2.1,List.drop_eq_nil_of_le (by rw[←HYN.out];omega),zaz];simp
   have h60:∀ t∈ns,t.length≤60:=fun t ht=>zmR (HJ.out.2.2.2.2.2 t ht)
   have htw:=zop ns h60
   rw[HJ.out.2.2.1] at htw
   have hst:=zaq.strs HJ.out.1 (by rw[HJ.out.2.2.1];omega) (fun t ht=>by have:=h60 t ht;omega)
   have HJN:=hid (zmI hst (by omega))
   have HPL:Hid ((zbl ns).length≤137438953472):=by
    have h2:=zeo ns
    show _≤_
    omega
   have HJO:Hid (zbU ns=decide (1≤q∧q≤65)):=by
    have h1:zdX ns=true:=List.all_eq_true.2 HJ.out.2.2.2.2.2
    rw[Hid,zbU,h1,HJ.out.2.2.1,Bool.true_and]
   have HBW:=hid HJ.out.2.1
   obtain⟨jt,HJT⟩:∃ jt,Hid (jt=zbl ns):=⟨_,rfl⟩
   have HFIN:Hid (∀ w' (b:Bool),Below w.heap.size w w'→b=decide (1≤q∧q≤65)→Q (.returned (.tuple #[zbA jt,.bool b])) w'):=by
    intro w' b hb he
    rw[HQ.out,HNS.out,HJT.out]
    refine⟨_,b,rfl,HPL.out,?_,?_,hb⟩
    ·
     rw[he,←HJO.out]
     exact⟨fun h=>⟨ns,rfl,h⟩,fun ⟨ns',h1,h2⟩=>by cases h1;exact h2⟩
    ·
     rintro - ns' h1
     cases h1;rfl
   rw[←HJT.out] at HJN
   clear h60 htw hst hlt
   by_cases h1:1≤q
   ·
    by_cases h2:q≤65
    ·
     have e:=decide_eq_true (And.intro h1 h2)
     have HE:=hid e
     clear e
     go_wp2_with fail
     refine HJN.out.mono ?_
     rintro e w5 ⟨rfl,hb5⟩
     have HB5:Hid (Below w.heap.size w w5):=zai HBW.out hb5 HBW.out.size
     clear hb5
     go_wp2_with fail
     exact HFIN.out _ _ HB5.out (by first|(rw[HE.out];done)|(rw[HE.out];exact decide_eq_true (by omega))|(rw[HE.out];exact decide_eq_false (by omega)))
    ·
     have HE:Hid (decide (1≤q∧q≤65)=false):=decide_eq_false fun h=>h2 h.2
     go_wp2_with fail
     refine HJN.out.mono ?_
     rintro e w5 ⟨rfl,hb5⟩
     have HB5:Hid (Below w.heap.size w w5):=zai HBW.out hb5 HBW.out.size
     clear hb5
     go_wp2_with fail
     exact HFIN.out _ _ HB5.out (by first|(rw[HE.out];done)|(rw[HE.out];exact decide_eq_true (by omega))|(rw[HE.out];exact decide_eq_false (by omega)))
   ·
    have HE:Hid (decide (1≤q∧q≤65)=false):=decide_eq_false fun h=>h1 h.1
    go_wp2_with fail
    refine HJN.out.mono ?_
    rintro e w5 ⟨rfl,hb5⟩
    have HB5:Hid (Below w.heap.size w w5):=zai HBW.out hb5 HBW.out.size
    clear hb5
    go_wp2_with fail
    exact HFIN.out _ _ HB5.out (by first|(rw[HE.out];done)|(rw[HE.out];exact decide_eq_true (by omega))|(rw[HE.out];exact decide_eq_false (by omega)))
end
section
open Go.RowKit
def zcF (s:List Mes)(root:Int)(w:List Int):Bool:=match zaz s root w with|some ns=>zbU ns|none=>false
def zoq (s:List Mes)(root n:Int):Fld:=(s.getD root.toNat .zero).fields.getD (zak (s.getD root.toNat .zero).fields n).toNat .zero
def zdm (s:List Mes):Int→Fld→List Int→Fld
 | _,f,[]=>f
 | root,_,n::r=>zdm s (zoq s root n).of (zoq s root n) r
theorem zqb {w:List Int}(h:w≠[]):mOf [w]=[w]:=by
 refine (zdK [w]).one ⟨List.pairwise_singleton _ _,fun u=>?_⟩
 unfold zky
 constructor
 ·
  intro hu
  have e:u=w:=by simpa using hu
  subst e
  exact⟨by simp,h,fun x hx _ _=>by simpa using hx⟩
 ·
  exact fun hu=>hu.1
theorem zqc:mOf [([]:List Int)]=[]:=by
 have h:=(zdK [([]:List Int)]).2
 refine List.eq_nil_iff_forall_not_mem.2 fun u hu=>?_
 have:=(h u).1 hu
 unfold zky at this
 exact this.2.1 (by simpa using this.1)
theorem zgx {s:List Mes}{root:Int}{w:List Int}(h:zcF s root w=true):w≠[]:=by
 rintro rfl
 unfold zcF zaz zbU at h
 simp at h
theorem zcn {s:List Mes}{root:Int}{w:List Int}(h:zcF s root w=true):∃ ns,zaz s root w=some ns:=by
 unfold zcF at h
 cases hn:zaz s root w with
 | none=>rw[hn] at h;cases h
 | some ns=>exact⟨ns,rfl⟩
theorem zor {s:List Mes}{root:Int}(w:List Int)(h:zbm s root=0):(zc5 s root [w]).1=if zcF s root w=true then 0 else 10:=by
 unfold zc5
 rw[if_neg (by omega)]
 by_cases hw:w=[]
 ·
  subst hw
  rw[if_pos (by unfold zeX;rw[zqc];simp),if_neg]
  intro h2
  exact zgx h2 rfl
 ·
  rw[if_neg (by unfold zeX;rw[zqb hw];simp)]
  unfold zcF zcA
  cases hn:zaz s root w with
  | none=>simp
  | some ns =>
   simp only
   by_cases hj:zbU ns=true
   ·
    rw[if_pos hj,if_pos hj];rfl
   ·
    rw[if_neg hj,if_neg hj]
theorem zfJ {s:List Mes}(hs:zaC s=true){root:Nat}(hr:root<s.length){n:Int}{r:List Int}{ns:List (List UInt8)}(h:zaz s root (n::r)=some ns) :
  ∃ j:Nat,zak (s.getD root .zero).fields n=j∧j<(s.getD root .zero).fields.length∧zoq s root n=(s.getD root .zero).fields.getD j .zero ∧
   (r≠[]→(zoq s root n).rep=false∧(zoq s root n).kind=17∧∃ ns',zaz s (zoq s root n).of r=some ns')∧(r≠[]→∃ q:Nat,(zoq s root n).of=q∧q<s.length):=by
 rw[zaz] at h
 rcases zfl (s:=s) (at':=root) (n:=n) rfl with ⟨-,h1⟩|⟨j,h1,h2,h3⟩
 ·
  rw[h1] at h;cases h
 ·
  rw[h3] at h
  simp only at h
  have hf:zoq s root n=(s.getD root .zero).fields.getD j .zero:=by
   unfold zoq
   rw[Int.toNat_natCast,h1,Int.toNat_natCast]
  refine⟨j,h1,h2,hf,fun hne=>?_,fun hne=>?_⟩
  ·
   by_cases hc:r≠[]∧(((s.getD root .zero).fields.getD j .zero).rep=true∨((s.getD root .zero).fields.getD j .zero).kind≠17)
   ·
    rw[if_pos hc] at h;cases h
   ·
    rw[if_neg hc] at h
    rw[hf]
    refine⟨by cases hb:((s.getD root .zero).fields.getD j .zero).rep with
     | true=>exact absurd ⟨hne,.inl hb⟩ hc
     | false=>rfl,Classical.byContradiction fun h17=>hc ⟨hne,.inr h17⟩,?_⟩
    cases hn:zaz s ((s.getD root .zero).fields.getD j .zero).of r with
    | none=>rw[hn] at h;cases h
    | some x=>exact⟨x,rfl⟩
  ·
   have hof:=zpf hs hr h2
   rw[hf]
   exact⟨_,(Int.toNat_of_nonneg hof.1).symm,by omega⟩
end
section
open Go.RowKit
theorem zfK {w:World}{vv:Value}{d:Nat}{v:Val (M d)}(hv:zat (zac d) w vv v) :
  Calls Tryz.prog 25 #[vv] w fun e w'=>e= .returned (.int .i64 (zcD v:Nat))∧Below w.heap.size w w':=by
 obtain⟨A1,A2,A3,rfl,-,hW,hT,hS⟩:=hv
 obtain⟨hl1,a1,c1,rfl,-,-⟩:=hW.open
 obtain⟨hl2,a2,c2,rfl,-,-⟩:=hT.open
 obtain⟨hl3,a3,c3,rfl,-,-⟩:=hS.open
 have hm:zcD v=v.words.length+v.texts.length+v.subs.length:=rfl
 rw[hm]
 generalize v.words.length=n1 at *
 generalize v.texts.length=n2 at *
 generalize v.subs.length=n3 at *
 obtain⟨X,HX⟩:∃ X,Hid (X=w.heap.size):=⟨_,rfl⟩
 obtain⟨W1,HW1⟩:∃ W,Hid (W=w.alloc (.cells #[.int .i64 v.num,.slice a1 n1 c1,.slice a2 n2 c2,.slice a3 n3 c3] 32)):=⟨_,rfl⟩
 have HB1:Hid (Below w.heap.size w W1):=by rw[HW1.out];exact (Below.refl _ _).alloc (Nat.le_refl _) _
 have hx:Blk W1 X [.int .i64 v.num,.slice a1 n1 c1,.slice a2 n2 c2,.slice a3 n3 c3] 32:=by rw[HW1.out,HX.out];exact Blk.new w [.int .i64 v.num,.slice a1 n1 c1,.slice a2 n2 c2,.slice a3 n3 c3] _
 have x1:=hx.cell 1 _ rfl
 have x2:=hx.cell 2 _ rfl
 have x3:=hx.cell 3 _ rfl
 have xl:=hx.lt
 clear hW hT hS hm hx
 go_enter Tryz.func25,Tryz.ntmps25
 go_upto_region 1 with fail
 rw[←HW1.out,←HX.out]
 go_wp2_with fail
 go_ret
 exact⟨by first|rfl|simp|(congr 2;omega),HB1.out⟩
def zfm (s:List Mes)(root:Int)(way:List Int)(w:World)(e:Ending)(w':World):Prop:=Below w.heap.size w w'∧(zcF s root way=false→e= .returned (.tuple #[Fld.zero.val,.bool false]))∧(zcF s root way=true→e= .returned (.tuple #[(zdm s root .zero way).val,.bool true]))
theorem zlP {w:World}{sv yv:Value}{s:List Mes}{y:List Int}(hS:zaj w sv s)(hs:zaC s=true)(root:Nat)(hroot:root<s.length)(hY:zar w yv y)(hL:y.length≤1073741824) :
  Calls Tryz.prog 24 #[sv,.int .i64 (root:Int),yv] w (zfm s root y w):=by
 obtain⟨-,ya,yc,rfl,-,hyat⟩:=hY.open
 obtain⟨Q,HQ⟩:∃ Q:Ending→World→Prop,Hid (Q=zfm s root y w):=⟨_,rfl⟩
 rw[←HQ.out]
 obtain⟨yn,HYN⟩:∃ n,Hid (n=y.length):=⟨_,rfl⟩
 rw[←HYN.out] at hL hY ⊢
 obtain⟨X,HX⟩:∃ X,Hid (X=w.heap.size):=⟨_,rfl⟩
 have hS2:=hS
 obtain⟨-,sa,sc,rfl,-⟩:=hS2.open
 obtain⟨sn,HSN⟩:∃ n,Hid (n=s.length):=⟨_,rfl⟩
 rw[←HSN.out] at hS hroot ⊢
 have HS:=hid hS
 have HSR:=hid hs
 have HRT:=hid hroot
 have HY:=hid hY
 have HYAT:=hid hyat
 obtain⟨W1,HW1⟩:∃ W,Hid (W=w.alloc (.cells #[.string ⟨#[]⟩,.int .i64 0,.int .i64 0,.bool false,.bool false,.int .i64 0] 51)):=⟨_,rfl⟩
 have hb1:Below w.heap.size w W1:=by rw[HW1.out];exact (Below.refl _ _).alloc (Nat.le_refl _) _
 have hx1:Blk W1 X [.string ⟨#[]⟩,.int .i64 0,.int .i64 0,.bool false,.bool false,.int .i64 0] 51:=by rw[HW1.out,HX.out];exact Blk.new w [.string ⟨#[]⟩,.int .i64 0,.int .i64 0,.bool false,.bool false,.int .i64 0] _
 obtain⟨W2,HW2⟩:∃ W,Hid (W=W1.alloc (.cells #[.slice ya yn yc] 28)):=⟨_,rfl⟩
 have hb2:Below W1.heap.size W1 W2:=by rw[HW2.out];exact (Below.refl _ _).alloc (Nat.le_refl _) _
 have hg2:Blk W2 W1.heap.size [.slice ya yn yc] 28:=by rw[HW2.out];exact Blk.new W1 [.slice ya yn yc] _
 have hb02:=hb1.trans (hb2.mono hb1.size)
 have hW2:zaM W2 (.slice (some ⟨W1.heap.size,0,none⟩) 1 1) [y]:=by
  refine⟨[[.slice ya yn yc]],rfl,by simp,zcS hg2 1 1 rfl (by omega),fun i r x hr hx=>?_⟩
  match i,hr,hx with
  | 0,hr,hx =>
   cases hr
   cases hx
   exact⟨_,rfl,hY.keep (zaa hb02)⟩
 have HPA:=hid (zmQ (HS.out.below hb02) root hW2 ⟨by simp,fun l hl=>by simp at hl;subst hl;rw[←HYN.out];omega⟩ fun l hl=>by simp at hl;subst hl;rw[←HYN.out];exact hL)
 have hma:zbm s root=0:=by
  unfold zbm
  rw[if_neg (by rw[hs];simp),if_neg (by have:=HSN.out;omega)]
 obtain⟨code,HC⟩:∃ c,Hid (c=(zc5 s root [y]).1):=⟨_,rfl⟩
 have HCE:Hid (code=if zcF s root y=true then 0 else 10):=by rw[Hid,HC.out];exact zor y hma
 unfold zhr at HPA
 rw[←HC.out] at HPA
 have HB2:=hid hb02
 have HX2:=hid (hx1.below hb2)
 clear hS hs hroot hY hyat hb1 hx1 hb2 hg2 hb02 hW2 hma
 unfold zb1 at HPA
 go_enter Tryz.func24,Tryz.ntmps24
 go_upto_region 1 with fail
 rw[←HW1.out,←HX.out]
 go_wp2_with fail
 rw[←HW2.out]
 refine HPA.out.mono ?_
 rintro e w3 ⟨v3,rfl,-,hb3⟩
 have HB3:=hid (HB2.out.trans (hb3.mono HB2.out.size))
 have HX3:=hid (HX2.out.below hb3)
 clear hb3 HPA
 obtain⟨wo,HWO⟩:∃ b,Hid (b=zcF s root y):=⟨_,rfl⟩
 rw[←HWO.out] at HCE
 cases wo with
 | false =>
  have hce:code=10:=by rw[HCE.out];rfl
  subst hce
  have x0:=HX3.out.cell 0 _ rfl
  have x1:=HX3.out.cell 1 _ rfl
  have x2:=HX3.out.cell 2 _ rfl
  have x3:=HX3.out.cell 3 _ rfl
  have x4:=HX3.out.cell 4 _ rfl
  have x5:=HX3.out.cell 5 _ rfl
  have f0:=HX3.out.free 0
  have f1:=HX3.out.free 1
  have f2:=HX3.out.free 2
  have f3:=HX3.out.free 3
  have f4:=HX3.out.free 4
  have f5:=HX3.out.free 5
  have xl:=HX3.out.lt
  have HBK:=(((((HX3.out.set 0 (.string ⟨#[]⟩)).set 1 (.int .i64 0)).set 2 (.int .i64 0)).set 3 (.bool false)).set 4 (.bool false)).set 5 (.int .i64 0)
  have q0:=HBK.cell 0 _ rfl
  have q1:=HBK.cell 1 _ rfl
  have q2:=HBK.cell 2 _ rfl
  have q3:=HBK.cell 3 _ rfl
  have q4:=HBK.cell 4 _ rfl
  have q5:=HBK.cell 5 _ rfl
  have hX:w.heap.size≤X:=by rw[HX.out];exact Nat.le_refl _
  have HE:Hid (Q (.returned (.tuple #[.agg #[.string ⟨#[]⟩,.int .i64 0,.int .i64 0,.bool false,.bool false,.int .i64 0],.bool false])) ((((((w3.setCell ⟨X,0,none⟩ (.string ⟨#[]⟩)).setCell ⟨X,1,none⟩ (.int .i64 0)).setCell ⟨X,2,none⟩ (.int .i64 0)).setCell ⟨X,3,none⟩ (.bool false)).setCell ⟨X,4,none⟩ (.bool false)).setCell ⟨X,5,none⟩ (.int .i64 0))):=by
   rw[HQ.out]
   exact⟨(((((HB3.out.setCell hX _).setCell hX _).setCell hX _).setCell hX _).setCell hX _).setCell hX _,fun _=>rfl,fun h=>by rw[←HWO.out] at h;cases h⟩
  clear HBK hX HC HCE
  go_wp2_with fail
  refine bodyPost_ret (v:=.tuple #[.agg #[.string ⟨#[]⟩,.int .i64 0,.int .i64 0,.bool false,.bool false,.int .i64 0],.bool false]) ?_ rfl HE.out
  simp[results,Tryz.results24,go_sem,q0,q1,q2,q3,q4,q5]
 | true =>
  have hce:code=0:=by rw[HCE.out];rfl
  subst hce
  obtain⟨ns0,hns0⟩:=zcn HWO.out.symm
  obtain⟨FB,HFB⟩:∃ b,Hid (b=w3.heap.size):=⟨_,rfl⟩
  obtain⟨W4,HW4⟩:∃ W,Hid (W=w3.alloc (.cells #[.string ⟨#[]⟩,.int .i64 0,.int .i64 0,.bool false,.bool false,.int .i64 0] 51)):=⟨_,rfl⟩
  have hb4:Below w3.heap.size w3 W4:=by rw[HW4.out];exact (Below.refl _ _).alloc (Nat.le_refl _) _
  have hf4:Blk W4 FB Fld.zero.cells 51:=by rw[HW4.out,HFB.out];exact Blk.new w3 Fld.zero.cells _
  have HB4:=hid (HB3.out.trans (hb4.mono HB3.out.size))
  have HX4:=hid (HX3.out.below hb4)
  have HF4:=hid hf4
  have HNS:=hid hns0
  have HXF:Hid (w.heap.size≤X∧X<FB):=⟨by rw[HX.out];exact Nat.le_refl _,by rw[HFB.out];exact HX3.out.lt⟩
  clear hb4 hf4 hns0 HCE HC
  go_upto_region 5 with fail
  rw[←HW4.out,←HFB.out]
  go_wp2_with fail
  go_loopw [1,27] (fun v1 v27 wr=>∃ (q:Nat) (rt:Int) (f:Fld),v27= .int .i64 (q:Int)∧v1= .int .i64 rt∧q≤yn∧Hid (Blk wr FB f.cells 51∧Blk wr X [.string ⟨#[]⟩,.int .i64 0,.int .i64 0,.bool false,.bool false,.int .i64 0] 51∧Below w.heap.size w wr∧zdm s rt f (y.drop q)=zdm s root .zero y∧(q<yn→0≤rt∧rt<sn∧∃ ns,zaz s rt (y.drop q)=some ns))) (fun _ v27 _=>yn - (intOf v27).toNat)
  case atStart=>exact⟨0,root,.zero,rfl,rfl,by omega,HF4.out,HX4.out,HB4.out,rfl,fun _=>⟨by omega,by have:=HRT.out;omega,ns0,HNS.out⟩⟩
  case round =>
   obtain⟨q,rt,f,rfl,rfl,hq,HJ⟩:=hrel
   by_cases hlt:q<yn
   ·
    obtain⟨h0,h1,ns,hns⟩:=HJ.out.2.2.2.2 hlt
    obtain⟨r,rfl⟩:∃ r:Nat,rt=r:=⟨rt.toNat,by omega⟩
    obtain⟨nb,hnb⟩:=zdJ HYN.out hlt
    obtain⟨h64,b2,o2,ha2,g2⟩:=HYAT.out q nb hnb
    have hix2:=zag Tryz.underlying28 zbr ha2 q hlt (cap:=yc)
    replace g2:=zaa HJ.out.2.2.1 _ _ g2
    have hl2:=World.block_lt_of_cell? wr _ g2
    rw[zbS hnb] at hns
    obtain⟨j,hj1,hj2,hj3,hj4,hj5⟩:=zfJ HSR.out (by rw[←HSN.out];omega) hns
    have HFL:=hid (zhh (HS.out.below HJ.out.2.2.1) (by rw[←HSN.out];omega) nb hj1 hj2)
    rw[←hj3] at HFL
    obtain⟨g,HG⟩:∃ g,Hid (g=zoq s r nb):=⟨_,rfl⟩
    rw[←HG.out] at HFL hj4 hj5
    have HNX:Hid (zdm s g.of g (y.drop (q+1))=zdm s root .zero y∧(q+1<yn→0≤g.of∧g.of<sn∧∃ ns,zaz s g.of (y.drop (q+1))=some ns)):=by
     refine⟨?_,fun h=>?_⟩
     ·
      have h2:=HJ.out.2.2.2.1
      rw[zbS hnb,zdm,←HG.out] at h2
      exact h2
     ·
      have hne:y.drop (q+1)≠[]:=by
       intro e
       have:=congrArg List.length e
       rw[List.length_drop,←HYN.out,List.length_nil] at this
       omega
      obtain⟨p,hp1,hp2⟩:=hj5 hne
      exact⟨by omega,by rw[HSN.out];omega,(hj4 hne).2.2⟩
    obtain⟨name,number,kind,rep,packed,of⟩:=g
    clear hns hnb ha2 hj1 hj2 hj3 hj4 hj5 h64
    go_wp2_with fail
    refine HFL.out.mono ?_
    rintro e w5 ⟨rfl,hb5⟩
    have hf5:=HJ.out.1.below hb5
    have HX5:=hid (HJ.out.2.1.below hb5)
    have HB5:=hid (HJ.out.2.2.1.trans (hb5.mono HJ.out.2.2.1.size))
    have s0:=hf5.cell 0 _ rfl
    have s1:=hf5.cell 1 _ rfl
    have s2:=hf5.cell 2 _ rfl
    have s3:=hf5.cell 3 _ rfl
    have s4:=hf5.cell 4 _ rfl
    have s5:=hf5.cell 5 _ rfl
    have f0:=hf5.free 0
    have f1:=hf5.free 1
    have f2:=hf5.free 2
    have f3:=hf5.free 3
    have f4:=hf5.free 4
    have f5:=hf5.free 5
    have fl:=hf5.lt
    have hfb:w.heap.size≤FB:=by have:=HXF.out;omega
    have HBK:=hid ((((((hf5.set 0 (.string name)).set 1 (.int .i64 number)).set 2 (.int .i64 kind)).set 3 (.bool rep)).set 4 (.bool packed)).set 5 (.int .i64 of))
    have HBE:=hid ((((((HB5.out.setCell (p:=⟨FB,0,none⟩) hfb (.string name)).setCell (p:=⟨FB,1,none⟩) hfb (.int .i64 number)).setCell (p:=⟨FB,2,none⟩) hfb (.int .i64 kind)).setCell (p:=⟨FB,3,none⟩) hfb (.bool rep)).setCell (p:=⟨FB,4,none⟩) hfb (.bool packed)).setCell (p:=⟨FB,5,none⟩) hfb (.int .i64 of))
    have hne:X≠FB:=by have:=HXF.out;omega
    have HXE:=hid ((((((HX5.out.set_other ⟨FB,0,none⟩ (.string name) hne).set_other ⟨FB,1,none⟩ (.int .i64 number) hne).set_other ⟨FB,2,none⟩ (.int .i64 kind) hne).set_other ⟨FB,3,none⟩ (.bool rep) hne).set_other ⟨FB,4,none⟩ (.bool packed) hne).set_other ⟨FB,5,none⟩ (.int .i64 of) hne)
    have e5:=HBK.out.cell 5 _ rfl
    simp only[Fld.val]
    clear hf5 hb5 HFL hne hfb g2 hl2 hix2 HJ
    go_wp2_with fail
    go_roundw
    case rel=>exact⟨q+1,_,⟨name,number,kind,rep,packed,of⟩,by go_num,rfl,hlt,HBK.out,HXE.out,HBE.out,HNX.out.1,HNX.out.2⟩
    case measure=>simp[intOf];omega
   ·
    obtain rfl:q=yn:=by omega
    have HLE:Hid (f=zdm s root .zero y):=by
     have h2:=HJ.out.2.2.2.1
     rw[List.drop_eq_nil_of_le (by rw[←HYN.out];exact Nat.le_refl _)] at h2
     exact h2
    obtain⟨name,number,kind,rep,packed,of⟩:=f
    have hf5:=HJ.out.1
    have s0:=hf5.cell 0 _ rfl
    have s1:=hf5.cell 1 _ rfl
    have s2:=hf5.cell 2 _ rfl
    have s3:=hf5.cell 3 _ rfl
    have s4:=hf5.cell 4 _ rfl
    have s5:=hf5.cell 5 _ rfl
    have fl:=hf5.lt
    have hx:=HJ.out.2.1
    have x0:=hx.cell 0 _ rfl
    have x1:=hx.cell 1 _ rfl
    have x2:=hx.cell 2 _ rfl
    have x3:=hx.cell 3 _ rfl
    have x4:=hx.cell 4 _ rfl
    have x5:=hx.cell 5 _ rfl
    have f0:=hx.free 0
    have f1:=hx.free 1
    have f2:=hx.free 2
    have f3:=hx.free 3
    have f4:=hx.free 4
    have f5:=hx.free 5
    have xl:=hx.lt
    have HBK:=(((((hx.set 0 (.string name)).set 1 (.int .i64 number)).set 2 (.int .i64 kind)).set 3 (.bool rep)).set 4 (.bool packed)).set 5 (.int .i64 of)
    have q0:=HBK.cell 0 _ rfl
    have q1:=HBK.cell 1 _ rfl
    have q2:=HBK.cell 2 _ rfl
    have q3:=HBK.cell 3 _ rfl
    have q4:=HBK.cell 4 _ rfl
    have q5:=HBK.cell 5 _ rfl
    have hX:=HXF.out.1
    have HE:Hid (Q (.returned (.tuple #[.agg #[.string name,.int .i64 number,.int .i64 kind,.bool rep,.bool packed,.int .i64 of],.bool true])) ((((((wr.setCell ⟨X,0,none⟩ (.string name)).setCell ⟨X,1,none⟩ (.int .i64 number)).setCell ⟨X,2,none⟩ (.int .i64 kind)).setCell ⟨X,3,none⟩ (.bool rep)).setCell ⟨X,4,none⟩ (.bool packed)).setCell ⟨X,5,none⟩ (.int .i64 of))):=by
     rw[HQ.out]
     exact⟨(((((HJ.out.2.2.1.setCell hX _).setCell hX _).setCell hX _).setCell hX _).setCell hX _).setCell hX _,fun h=>absurd (HWO.out.trans h) (by simp),fun _=>by rw[←HLE.out];rfl⟩
    clear HBK hX hx hf5 HJ HLE
    go_wp2_with fail
    refine bodyPost_ret (v:=.tuple #[.agg #[.string name,.int .i64 number,.int .i64 kind,.bool rep,.bool packed,.int .i64 of],.bool true]) ?_ rfl HE.out
    simp[results,Tryz.results24,go_sem,q0,q1,q2,q3,q4,q5]
end
section
open Go.RowKit
def zoK {α:Type}(n:Int)(v:Val α)(l:List (Val α)):List (Val α):=if zcD v=0 then zm1 n l else zdk ⟨n,v.words,v.texts,v.subs⟩ l
def zi9 (d:Nat):M (d+1):=(⟨[],[]⟩:zec (M d))
def zdj {m:Nat}:(way:List Int)→M (m+way.length)→Val (M m)→M (m+way.length)
 | [],x,_=>x
 | [n],x,v=>(⟨zoK n v (M.vals (d:=m) x),M.unk (d:=m) x⟩:zec (M m))
 | n::k::r,x,v=>match zbu (M.vals (d:=m+(k::r).length) x) n with
  | some w=>match w.subs with
   | y::_=>(⟨zdk ⟨n,[],[],[zdj (k::r) y v]⟩ (M.vals (d:=m+(k::r).length) x),M.unk (d:=m+(k::r).length) x⟩:zec (M (m+(k::r).length)))
   | []=>x
  | none=>if zcD v=0 then x else (⟨zdk ⟨n,[],[],[zdj (k::r) (zi9 (m+r.length)) v]⟩ (M.vals (d:=m+(k::r).length) x),M.unk (d:=m+(k::r).length) x⟩:zec (M (m+(k::r).length)))
def atM {m:Nat}:(way:List Int)→M (m+way.length)→Option (Val (M m))
 | [],_=>none
 | [n],x=>zbu (M.vals (d:=m) x) n
 | n::k::r,x=>match zbu (M.vals (d:=m+(k::r).length) x) n with
  | some w=>match w.subs with
   | y::_=>atM (k::r) y
   | []=>none
  | none=>none
def zge {m:Nat}:(way:List Int)→M (m+way.length)→Prop
 | [],_=>True
 | [_],x=>zbc (M.vals (d:=m) x)
 | n::k::r,x=>zbc (M.vals (d:=m+(k::r).length) x)∧∀ w,zbu (M.vals (d:=m+(k::r).length) x) n=some w→∃ y,w.subs=[y]∧zge (k::r) y
theorem zht {m:Nat}:∀ (k:Int) (r:List Int),zge (m:=m) (k::r) (zi9 (m+r.length))
 | _,[]=>List.Pairwise.nil
 | _,_::_=>⟨List.Pairwise.nil,fun w h=>by cases h⟩
theorem zhu {m:Nat}{n k:Int}{r:List Int}{x:M (m+(n::k::r).length)}{v:Val (M m)}(h:zbu (M.vals (d:=m+(k::r).length) x) n=none)(h0:zcD v=0):zdj (n::k::r) x v=x:=by
 unfold zdj
 rw[h]
 exact if_pos h0
theorem zi3 {m:Nat}{n k:Int}{r:List Int}{x:M (m+(n::k::r).length)}{v:Val (M m)}(h:zbu (M.vals (d:=m+(k::r).length) x) n=none)(h0:zcD v≠0):zdj (n::k::r) x v=(⟨zdk ⟨n,[],[],[zdj (k::r) (zi9 (m+r.length)) v]⟩ (M.vals (d:=m+(k::r).length) x),M.unk (d:=m+(k::r).length) x⟩:zec (M (m+(k::r).length))):=by
 conv=>lhs;unfold zdj
 rw[h]
 exact if_neg h0
theorem zhv {m:Nat}{n k:Int}{r:List Int}{x:M (m+(n::k::r).length)}{v:Val (M m)}{g:Val (M (m+(k::r).length))}{y:M (m+(k::r).length)}(h:zbu (M.vals (d:=m+(k::r).length) x) n=some g)(hs:g.subs=[y]):zdj (n::k::r) x v=(⟨zdk ⟨n,[],[],[zdj (k::r) y v]⟩ (M.vals (d:=m+(k::r).length) x),M.unk (d:=m+(k::r).length) x⟩:zec (M (m+(k::r).length))):=by
 conv=>lhs;unfold zdj
 rw[h]
 simp only
 rw[hs]
theorem zi4 {α:Type}(v:Val α)(l:List (Val α)):(zdk v l).length≤l.length+1:=by
 induction l with
 | nil=>simp[zdk]
 | cons x r ih =>
  unfold zdk
  split
  ·
   simp;exact ih
  ·
   split <;> simp
theorem zmT {α:Type}{n:Int}{v:Val α}{l:List (Val α)}(h:zbc l):zoZ ⟨n,v.words,v.texts,v.subs⟩ l=zoK n v l:=by
 unfold zoZ zoK
 have hm:zcD (⟨n,v.words,v.texts,v.subs⟩:Val α)=zcD v:=rfl
 rw[hm]
 by_cases h0:zcD v=0
 ·
  rw[if_pos h0,decide_eq_true h0,zeU]
 ·
  rw[if_neg h0,decide_eq_false h0,zfy h]
theorem zim {α:Type}{n:Int}{y:α}{l:List (Val α)}(h:zbc l):zoZ ⟨n,[],[],[y]⟩ l=zdk ⟨n,[],[],[y]⟩ l:=by
 unfold zoZ
 rw[decide_eq_false (by unfold zcD;simp),zfy h]
end
end Go.Proofs.YtdpnmdkbdibkpaaGreatDoor
