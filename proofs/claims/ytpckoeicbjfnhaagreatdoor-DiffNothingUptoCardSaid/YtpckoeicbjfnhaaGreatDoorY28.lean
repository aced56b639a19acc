/- Parts of a proof: texts of the author, merged. No condition of their own. -/
import Derived.Test.YtpckoeicbjfnhaaGreatDoorY01
import Derived.Test.YtpckoeicbjfnhaaGreatDoorY16
import Derived.Test.YtpckoeicbjfnhaaGreatDoorY17
import Derived.Test.YtpckoeicbjfnhaaGreatDoorY18
import Derived.Test.YtpckoeicbjfnhaaGreatDoorY27
import Derived.BigQuiet
import Derived.Deep.CutBlock
namespace Go.Proofs.YtpckoeicbjfnhaaGreatDoor
set_option maxRecDepth 100000
set_option maxHeartbeats 16000000
section
open Go.RowKit
theorem zpE {s:List Mes}(h:zaw s=true)(m:Nat)(hm:m<s.length)(f:Fld)(hf:f∈(s.getD m .zero).fields):1≤f.number∧f.number≤536870911:=by
 have h0:(zbJ s).2.2=0:=of_decide_eq_true h
 unfold zbJ at h0
 by_cases h1:s.length=0∨100<s.length
 ·
  rw[if_pos h1] at h0;simp at h0
 rw[if_neg h1] at h0
 have hmem:s.getD m .zero∈s:=by
  have:s.getD m .zero=s[m]:=by simp[List.getD,hm]
  rw[this];exact List.getElem_mem hm
 obtain⟨h2,-,-⟩:=zci s [] 0 h0 _ hmem
 obtain⟨nm,nu,h3⟩:=zcd _ _ _ h2 f hf
 obtain⟨-,-,h4,-⟩:=zcz h3
 have h5:=of_decide_eq_true h4
 omega
end
section
open Go.RowKit
theorem zka {w:World}{sv v:Value}{s:List Mes}{d:Nat}{x:M d}(hS:zap w sv s)(root:Int)(h:zat d w v x)(hw:mwt d x≤1099511627776) :
  Calls Tryz.prog 29 #[sv,.int .i64 root,v] w fun e w'=>e= .returned (.bool (zaw s&&zav s d root x))∧Below w.heap.size w w':=by
 have HS:=hid hS
 have HM:=hid h
 have HW:=hid hw
 have hok:=zhz s d
 unfold zha at hok
 have HOK:=hid hok
 obtain⟨-,sa,sc,rfl,-⟩:=hS.open
 obtain⟨a1,n1,c1,a2,n2,c2,rfl⟩:=h.form
 have hB1:Below w.heap.size w (w.alloc (.cells #[.slice a1 n1 c1,.slice a2 n2 c2] 27)):=(Below.refl _ _).alloc (Nat.le_refl _) _
 have HB1:=hid hB1
 have hk:=Blk.new w [.slice a1 n1 c1,.slice a2 n2 c2] 27
 have HK:=hid hk
 obtain⟨b,HBB⟩:∃ b,Hid (zaw s=b):=⟨_,rfl⟩
 obtain⟨r,HR⟩:∃ r,Hid (zav s d root x=r):=⟨_,rfl⟩
 rw[HBB.out,HR.out]
 clear hok hS h hw hB1 hk
 cases b with
 | false =>
  go_enter Tryz.func29,Tryz.ntmps29
  go_wp2_with (go_at_call 28;refine (za0 (HS.out.below HB1.out)).mono ?_;rintro e w1 ⟨rfl,hb1⟩;rw[HBB.out])
  go_ret
  exact⟨rfl,HB1.out.trans (hb1.mono HB1.out.size)⟩
 | true =>
  go_enter Tryz.func29,Tryz.ntmps29
  go_wp2_with fail
  refine (za0 (HS.out.below HB1.out)).mono ?_
  rintro e w1 ⟨rfl,hb1⟩
  rw[HBB.out]
  have HK1:=hid (HK.out.below hb1)
  have x0:=HK1.out.cell 0 _ rfl
  have x1:=HK1.out.cell 1 _ rfl
  have lx:=HK1.out.lt
  have HB2:=hid (HB1.out.trans (hb1.mono HB1.out.size))
  clear hb1
  go_wp2_with fail
  refine (HOK.out _ root _ _ x (HS.out.below HB2.out) (HM.out.below HB2.out) HW.out).mono ?_
  rintro e w2 ⟨rfl,hb2⟩
  rw[HR.out]
  go_wp2_with fail
  go_ret
  exact⟨rfl,HB2.out.trans (hb2.mono HB2.out.size)⟩
end
section
open Go.RowKit
end
section
open Go.RowKit
theorem zoH {k:Int}(h:zaM k=true)(hk:zac k=false):zas k=2:=by
 unfold zaM at h
 unfold zac at hk
 simp at h hk
 unfold zas
 rw[if_neg (by omega),if_pos (by omega)]
end
section
open Go.RowKit
end
section
open Go.RowKit
end
section
open Go.RowKit
/-! How long the bytes are. -/
theorem zgC {α:Type}{F:α→List UInt8}{f:α→Nat}:∀ (l:List α),(∀ x∈l,(F x).length≤30*f x)→(l.flatMap F).length≤30*(l.map f).sum
 | [],_=>by simp
 | x::r,h=>by
  have h1:=h x (by simp)
  have h2:=zgC r fun y hy=>h y (by simp[hy])
  rw[List.flatMap_cons,List.length_append,List.map_cons,List.sum_cons]
  omega
theorem zln (n x:Int)(t:List UInt8)(h:0≤8*n+x∧8*n+x<18446744073709551616)(ht:t.length<18446744073709551616):(zcj n x t).length≤20+t.length:=by
 unfold zcj
 have h1:=ze3 (x:=(8*n+x).toNat) (by omega)
 have h2:=ze3 (x:=t.length) (by omega)
 rw[List.length_append,List.length_append]
 split <;> simp <;> omega
theorem zsB {w:World}{s:List Mes}{d:Nat}(ih:∀ (root:Int) (v:Value) (x:M d),zat d w v x→mwt d x≤1125899906842624→(zfE s d root x).length+30≤30*mwt d x)(f:Fld)(hf:0≤f.number∧f.number≤536870911)(v:Value)(x:Val (M d))(h:zb6 (zat d) w v x)
  (hw:vwt (mwt d) x≤1125899906842624):(zhL (zfE s d) f x).length≤30*vwt (mwt d) x:=by
 obtain⟨wv,tv,sv,rfl,-,hW,hT,hSu⟩:=h
 obtain⟨-,sa,sc,-,-,hsa⟩:=hSu.open
 have hwt:=hw
 unfold vwt at hwt
 unfold zhL
 by_cases hk:zac f.kind=true
 ·
  rw[if_pos hk]
  cases hr:f.rep with
  | true =>
   rw[if_pos rfl]
   have h1:=zeo f.kind x.words hW.2
   have h2:=zln f.number 2 (zbR f.kind x.words) (by omega) (by omega)
   unfold vwt
   omega
  | false =>
   rw[if_neg (by decide)]
   have h0:x.words.getD 0 0<2 ^ 64:=by
    cases hx:x.words[0]? with
    | none=>rw[List.getD,hx];decide
    | some y=>rw[List.getD,hx];exact hW.2 y (List.mem_of_getElem? hx)
   have h1:=zg1 f.kind h0
   have h3:zas f.kind≤5:=by
    unfold zas
    repeat' split
    all_goals omega
   have h2:=zln f.number (zas f.kind) (zeQ f.kind (x.words.getD 0 0)) (by omega) (by omega)
   unfold vwt
   omega
 ·
  rw[if_neg hk,List.length_append]
  have h1:(x.texts.flatMap (zcj f.number 2)).length≤30*twt x.texts:=by
   refine zgC _ fun t ht=>?_
   have h3:=za4 (fun t:List UInt8=>1+t.length) x.texts t ht
   unfold twt at hwt
   have h2:=zln f.number 2 t (by omega) (by omega)
   show _≤30*(1+t.length)
   omega
  have h2:(x.subs.flatMap fun y=>zcj f.number 2 (zfE s d f.of y)).length≤30*(x.subs.map (mwt d)).sum:=by
   refine zgC _ fun y hy=>?_
   obtain⟨k,hk⟩:=List.mem_iff_getElem?.1 hy
   obtain⟨b,o,v1,v2,-,-,-,hM⟩:=hsa k y hk
   have h3:=za4 (mwt d) x.subs y hy
   have h4:=ih f.of _ y hM (by omega)
   have h5:=zln f.number 2 (zfE s d f.of y) (by omega) (by omega)
   omega
  unfold vwt
  omega
theorem zrj {w:World}{s:List Mes}(hs:zaw s=true):∀ (d:Nat) (root:Int) (v:Value) (x:M d),zat d w v x→mwt d x≤1125899906842624→(zfE s d root x).length+30≤30*mwt d x
 | 0,_,_,_,h,_=>h.elim
 | d+1,root,v,x,h,hw=>by
  obtain⟨vv,uv,rfl,hV,hU⟩:=h
  obtain⟨-,va,vc,-,-,hva⟩:=hV.open
  have e:mwt (d+1) x=1+twt (M.unk x)+((M.vals x).map (vwt (mwt d))).sum:=rfl
  have e2:zfE s (d+1) root x=(M.vals x).flatMap (fun v=>zhL (zfE s d) ((s.getD root.toNat .zero).fields.getD (zae (s.getD root.toNat .zero).fields v.num).toNat .zero) v)++(M.unk x).flatMap id:=rfl
  rw[e] at hw ⊢
  rw[e2,List.length_append]
  have h1:((M.unk x).flatMap id).length≤30*twt (M.unk x):=by
   refine zgC _ fun t _=>?_
   show t.length≤30*(1+t.length)
   omega
  have h2:((M.vals x).flatMap (fun v=>zhL (zfE s d) ((s.getD root.toNat .zero).fields.getD (zae (s.getD root.toNat .zero).fields v.num).toNat .zero) v)).length≤30*((M.vals x).map (vwt (mwt d))).sum:=by
   refine zgC _ fun y hy=>?_
   obtain⟨k,hk⟩:=List.mem_iff_getElem?.1 hy
   obtain⟨b,o,v1,v2,v3,-,-,-,-,-,hM⟩:=hva k y hk
   have h3:=za4 (vwt (mwt d)) (M.vals x) y hy
   refine zsB (w:=w) (fun root v x h hw=>zrj hs d root v x h hw) _ ?_ _ y hM (by omega)
   generalize (zae (s.getD root.toNat .zero).fields y.num).toNat=j
   by_cases hr:root.toNat<s.length
   ·
    by_cases hj:j<(s.getD root.toNat .zero).fields.length
    ·
     have hm:(s.getD root.toNat .zero).fields.getD j .zero∈(s.getD root.toNat .zero).fields:=by
      have:(s.getD root.toNat .zero).fields.getD j .zero=(s.getD root.toNat .zero).fields[j]:=by rw[List.getD,List.getElem?_eq_getElem hj];rfl
      rw[this];exact List.getElem_mem hj
     have:=zpE hs root.toNat hr _ hm
     omega
    ·
     have:(s.getD root.toNat .zero).fields.getD j .zero= .zero:=by rw[List.getD,List.getElem?_eq_none (by omega)];rfl
     rw[this];decide
   ·
    have h0:s.getD root.toNat .zero= .zero:=by rw[List.getD,List.getElem?_eq_none (by omega)];rfl
    rw[h0]
    have:(Mes.zero).fields.getD j .zero=Fld.zero:=by simp[Mes.zero]
    rw[this];decide
  omega
end
section
open Go.RowKit
theorem znK {w:World}{v u:Value}{l m:List UInt8}(h:zal w v l)(hu:zal w u m) :
  Calls Tryz.prog 53 #[v,u] w fun e w'=>e= .returned (.bool (decide (l=m)))∧w=w':=by
 have s1:=h.str
 have s2:=hu.str
 obtain⟨z,HZ⟩:∃ z,Hid (z=decide (l=m)):=⟨_,rfl⟩
 rw[←HZ.out]
 obtain⟨A,HA⟩:∃ A:ByteArray,Hid (A=⟨l.toArray⟩):=⟨_,rfl⟩
 obtain⟨B,HB⟩:∃ A:ByteArray,Hid (A=⟨m.toArray⟩):=⟨_,rfl⟩
 rw[←HA.out] at s1
 rw[←HB.out] at s2
 obtain⟨-,a,cap,rfl,-⟩:=h.open
 obtain⟨-,a2,cap2,rfl,-⟩:=hu.open
 generalize l.length=n1 at *
 generalize m.length=n2 at *
 have hz:(A.toList == B.toList)=z:=by
  rw[HZ.out,HA.out,HB.out,Bool.eq_iff_iff]
  simp[ByteArray.toList_eq]
 clear h hu
 go_enter Tryz.func53,Tryz.ntmps53
 go_wp2_with fail
 go_ret
 exact⟨by simp,rfl⟩
end
section
open Go.RowKit
def zgD (s:List Mes)(root:Int)(l:List UInt8)(d:Int)(w:World)(e:Ending)(w':World):Prop:=
 ∃ v',e= .returned (.tuple #[v',.int .u8 ((zaP s root l d).2:Nat)])∧Below w.heap.size w w'∧(∃ a1 n1 c1 a2 n2 c2,v'= .agg #[.slice a1 n1 c1,.slice a2 n2 c2])∧((zaP s root l d).2=0→zc8 0 w.heap.size w' fun w2=>zat (d.toNat+1) w2 v' (tof s d.toNat root.toNat l))
theorem ztq {w:World}{vs vb:Value}{s:List Mes}{l:List UInt8}(hof:zaw s=true→∀ d',zq3 w vs s d')(hS:zap w vs s)(hb:zal w vb l)(hl:l.length≤1099511627776)(root d:Int) :
  Calls Tryz.prog 73 #[vs,.int .i64 root,vb,.int .i64 d] w (zgD s root l d w):=by
 obtain⟨W1,HW1⟩:∃ W1,Hid (W1=w.alloc (.cells #[.slice none 0 0,.slice none 0 0] 27)):=⟨_,rfl⟩
 have hbw:Below w.heap.size w W1:=by rw[HW1.out];(with_reducible repeat first|exact Below.refl _ _|refine pzA ?_ _|refine pzB ?_ _|refine zab ?_ _|refine Below.drew ?_)
 have hbx:Blk W1 w.heap.size [.slice none 0 0,.slice none 0 0] 27:=by rw[HW1.out];exact Blk.new w [.slice none 0 0,.slice none 0 0] _
 have HBW:=hid hbw
 have HBX:=hid hbx
 have HC:=hid (ziq (hS.below hbw) (hb.below hbw) root d)
 have HOF:=hid hof
 have HB:=hid hb
 have HL:=hid hl
 obtain⟨-,sa,sc,rfl,-⟩:=hS.open
 obtain⟨-,a,c,rfl,-⟩:=hb.open
 obtain⟨n,HN⟩:∃ n,Hid (n=s.length):=⟨_,rfl⟩
 obtain⟨m,HM⟩:∃ n,Hid (n=l.length):=⟨_,rfl⟩
 rw[←HN.out] at HC HOF ⊢
 rw[←HM.out] at HC HB ⊢
 obtain⟨p,HP⟩:∃ p,Hid (p=(zaP s root l d).1):=⟨_,rfl⟩
 obtain⟨z,HZ⟩:∃ z,Hid (z=(zaP s root l d).2):=⟨_,rfl⟩
 rw[←HP.out,←HZ.out] at HC
 obtain⟨Q,HQ⟩:∃ Q:Ending→World→Prop,Hid (Q=zgD s root l d w):=⟨_,rfl⟩
 rw[←HQ.out]
 clear hS hb hof hbw hbx
 obtain⟨X,HX⟩:∃ X,Hid (X=w.heap.size):=⟨_,rfl⟩
 rw[←HX.out] at HBX
 by_cases hz:z=0
 ·
  obtain⟨g1,⟨g2,g3⟩,⟨g4,g5⟩,g6⟩:=za7 (HZ.out.symm.trans hz)
  obtain⟨r,rfl⟩:∃ r:Nat,root=r:=⟨root.toNat,by omega⟩
  have HG:=hid (And.intro g3 g6)
  have HOF2:=hid (HOF.out g1)
  subst hz
  clear g1 g2 g3 g4 g5 g6 hl
  go_enter Tryz.func73,Tryz.ntmps73
  go_wp2_with ((try rw[←HW1.out]);go_at_call 54;refine HC.out.mono ?_;rintro e w1 ⟨rfl,hb1⟩;have HB1:=hid (HBW.out.trans (hb1.mono HBW.out.size));have hx1:=HBX.out.below hb1)
  have hv:(zdb s d.toNat r l).2=0:=by have:=HG.out.2;rwa [Int.toNat_natCast] at this
  refine (HOF2.out d.toNat r _ _ l (by have:=HG.out.1;omega) HB1.out (HB.out.below HB1.out) HL.out hv).mono ?_
  rintro e w2 ⟨v',rfl,hb2,hap⟩
  obtain⟨a1,n1,c1,a2,n2,c2,rfl⟩:=hap.here.form
  have hx2:=hx1.below hb2
  have hx0:=hx2.cell 0 _ rfl
  have hx1':=hx2.cell 1 _ rfl
  have hf0:=hx2.free 0
  have hf1:=hx2.free 1
  have hlX:=hx2.lt
  rw[HX.out] at hx0 hx1' hf0 hf1 hlX
  go_wp2_with fail
  refine bodyPost_ret (v:=.tuple #[.agg #[.slice a1 n1 c1,.slice a2 n2 c2],.int .u8 0]) ?_ rfl ?_
  ·
   simp[results,Tryz.results73,go_sem,hx0,hx1']
  ·
   rw[HQ.out]
   have hbf:Below w.heap.size w ((w2.setCell ⟨w.heap.size,0,none⟩ (.slice a1 n1 c1)).setCell ⟨w.heap.size,1,none⟩ (.slice a2 n2 c2)):=
    ((HB1.out.trans (hb2.mono HB1.out.size)).setCell (Nat.le_refl _) _).setCell (Nat.le_refl _) _
   refine⟨_,by rw[←HZ.out];rfl,hbf,⟨_,_,_,_,_,_,rfl⟩,fun _ w9 hw9=>?_⟩
   rw[Int.toNat_natCast]
   have hs1:w.heap.size<w1.heap.size:=by have:=hx1.lt;rw[HX.out] at this;exact this
   refine hap w9 fun b' hlt' hc=>(hw9 b' (by simpa using hlt') (.inr (by omega))).trans ?_
   rw[Below.heap_setCell _ _ _ b' (by show b'≠w.heap.size;omega),Below.heap_setCell _ _ _ b' (by show b'≠w.heap.size;omega)]
 ·
  have e1:((z:Int) != 0)=true:=by simpa using hz
  have e2:((z:Int) == 0)=false:=by simpa using hz
  go_enter Tryz.func73,Tryz.ntmps73
  go_wp2_with ((try rw[←HW1.out]);go_at_call 54;refine HC.out.mono ?_;rintro e w1 ⟨rfl,hb1⟩;have HB1:=hid (HBW.out.trans (hb1.mono HBW.out.size));have hx2:=HBX.out.below hb1;have hx0:=hx2.cell 0 _ rfl;have hx1':=hx2.cell 1 _ rfl;have hf0:=hx2.free 0;have hf1:=hx2.free 1;have hlX:=hx2.lt;rw[HX.out] at hx0 hx1' hf0 hf1 hlX)
  refine bodyPost_ret (v:=.tuple #[.agg #[.slice none 0 0,.slice none 0 0],.int .u8 z]) ?_ rfl ?_
  ·
   simp[results,Tryz.results73,go_sem,hx0,hx1']
  ·
   rw[HQ.out]
   have hbf:Below w.heap.size w ((w1.setCell ⟨w.heap.size,0,none⟩ (.slice none 0 0)).setCell ⟨w.heap.size,1,none⟩ (.slice none 0 0)):=(HB1.out.setCell (Nat.le_refl _) _).setCell (Nat.le_refl _) _
   exact⟨_,by rw[←HZ.out],hbf,⟨_,_,_,_,_,_,rfl⟩,fun h9=>absurd (HZ.out.trans h9) hz⟩
end
end Go.Proofs.YtpckoeicbjfnhaaGreatDoor
