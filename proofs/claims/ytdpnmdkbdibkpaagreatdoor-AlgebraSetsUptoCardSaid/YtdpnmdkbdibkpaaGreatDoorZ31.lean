/- Parts of a proof: texts of the author, merged. No condition of their own. -/
import Derived.Test.YtdpnmdkbdibkpaaGreatDoorZ06
import Derived.Test.YtdpnmdkbdibkpaaGreatDoorZ29
import Derived.Test.YtdpnmdkbdibkpaaGreatDoorZ30
import Derived.BigQuiet
import Derived.Lib.LastIndexByte
import Derived.Deep.RegionHeld3
import Derived.StillTailTactics
import Derived.Deep.DeepCutAuto
namespace Go.Proofs.YtdpnmdkbdibkpaaGreatDoor
set_option maxRecDepth 100000
set_option maxHeartbeats 16000000
section
open Go.RowKit
def zaZ (i:Nat)(fs:List Fld):List ((Int × Int) × Value):=fs.map fun f=>(((i:Int),f.number),f.val)
def zaE:List Mes→Nat→List ((Int × Int) × Value)
 | [],_=>[]
 | m::r,i=>zaZ i m.fields++zaE r (i+1)
theorem zdl:∀ (a b:List Mes) (i:Nat),zaE (a++b) i=zaE a i++zaE b (i+a.length)
 | [],b,i=>by simp[zaE]
 | m::r,b,i=>by
  rw[List.cons_append,zaE,zaE,zdl r b (i+1),List.append_assoc,List.length_cons,show i+1+r.length=i+(r.length+1) by omega]
theorem zfI {es:List ((Int × Int) × Value)}{k:Int × Int}(h:∀ e∈es,e.1≠k):zal k es=none:=by
 induction es with
 | nil=>rfl
 | cons x r ih =>
  obtain⟨k',v⟩:=x
  rw[zal,if_neg (fun e=>h (k',v) (by simp) e.symm)]
  exact ih fun e he=>h e (by simp[he])
theorem zdY:∀ (l:List Mes) (i:Nat),∀ e∈zaE l i,(i:Int)≤e.1.1∧e.1.1<i+l.length
 | [],_,e,h=>by simp[zaE] at h
 | m::r,i,e,h=>by
  rw[zaE] at h
  rcases List.mem_append.1 h with h|h
  ·
   obtain⟨f,-,rfl⟩:=List.mem_map.1 h
   simp;omega
  ·
   have:=zdY r (i+1) e h
   simp at this ⊢;omega
theorem zil (i:Nat)(n:Int):∀ fs:List Fld,zal ((i:Int),n) (zaZ i fs)=(fs.find? fun f=>decide (f.number=n)).map Fld.val
 | []=>rfl
 | f::r=>by
  have ih:=zil i n r
  unfold zaZ at ih ⊢
  rw[List.map_cons,zal]
  by_cases h:f.number=n
  ·
   rw[if_pos (by rw[h]),List.find?_cons_of_pos (by simpa using h)];rfl
  ·
   rw[if_neg (fun e=>h (congrArg Prod.snd e).symm),List.find?_cons_of_neg (by simpa using h)];exact ih
theorem zk7 {s:List Mes}{at':Int}{n:Int}(h0:0≤at')(h1:at'<s.length):zal (at',n) (zaE s 0)=(zbh s at' n).map Fld.val:=by
 obtain⟨k,rfl⟩:∃ k:Nat,at'=k:=⟨at'.toNat,by omega⟩
 have hk:k<s.length:=by omega
 have hs:s=s.take k++(s.getD k .zero)::s.drop (k+1):=by
  conv=>lhs;rw[←List.take_append_drop k s,List.drop_eq_getElem_cons hk]
  rw[List.getD_eq_getElem?_getD,List.getElem?_eq_getElem hk];rfl
 have hl:(s.take k).length=k:=by rw[List.length_take];omega
 have e:zaE s 0=zaE (s.take k) 0++(zaZ k (s.getD k .zero).fields++zaE (s.drop (k+1)) (k+1)):=by
  conv=>lhs;rw[hs]
  rw[zdl,zaE,hl,Nat.zero_add]
 rw[e,zaA,zfI (fun x hx=>?_)]
 ·
  simp only[Option.orElse]
  rw[zaA,zil,zfI (es:=zaE (s.drop (k+1)) (k+1)) (fun x hx=>?_)]
  ·
   unfold zbh
   rw[Int.toNat_natCast]
   cases ((s.getD k .zero).fields.find? fun f=>decide (f.number=n)) <;> rfl
  ·
   have:=zdY _ _ x hx
   intro hh
   have:=congrArg Prod.fst hh
   simp at this
   omega
 ·
  have:=zdY _ _ x hx
  intro hh
  have:=congrArg Prod.fst hh
  simp at this
  omega
end
section
open Go.RowKit
theorem zeY {K:Type}{kv:K→Value}{w w':World}{r:Nat}{es:List (K × Value)}(h:zas w r kv es)(hb:Below w.heap.size w w'):zas w' r kv es:=by
 unfold zas at *
 have hr:r<w.heap.size:=(Array.getElem?_eq_some_iff.1 h).1
 rw[hb.block r hr];exact h
theorem zkg {K:Type}{kv:K→Value}{B:Nat}{w w':World}{r:Nat}{es:List (K × Value)}(h:Below B w w')(hr:B≤r):Below B w (za9 w' r kv es):=
 ⟨h.os,h.tape,h.output,by rw[za6];exact h.size,fun b hb=>(zaT (by omega)).trans (h.block b hb)⟩
theorem zkh {s:List Mes}{k:Nat}(h:k<s.length):zaE (s.take (k+1)) 0=zaE (s.take k) 0++zaZ k (s.getD k .zero).fields:=by
 rw[List.take_succ_eq_append_getElem h,zdl,List.length_take,Nat.min_eq_left (by omega),Nat.zero_add,List.getD_eq_getElem?_getD,List.getElem?_eq_getElem h]
 simp[zaE]
theorem zhN {fs:List Fld}{k j:Nat}(h:j<fs.length):zaZ k (fs.take (j+1))=zaZ k (fs.take j)++[(((k:Int),(fs.getD j .zero).number),(fs.getD j .zero).val)]:=by
 unfold zaZ
 rw[List.take_succ_eq_append_getElem h,List.map_append,List.getD_eq_getElem?_getD,List.getElem?_eq_getElem h]
 rfl
theorem zoj {s:List Mes}(hs:zaC s=true){k j:Nat}(hk:k<s.length)(hj:j<(s.getD k .zero).fields.length) :
  zal ((k:Int),((s.getD k .zero).fields.getD j .zero).number) (zaE (s.take k) 0++zaZ k ((s.getD k .zero).fields.take j))=none:=by
 refine zfI fun e he hh=>?_
 rcases List.mem_append.1 he with h|h
 ·
  have h1:=zdY _ _ e h
  have h2:=congrArg Prod.fst hh
  simp[List.length_take] at h1 h2
  omega
 ·
  obtain⟨f,hf,rfl⟩:=List.mem_map.1 h
  have h2:f.number=((s.getD k .zero).fields.getD j .zero).number:=congrArg Prod.snd hh
  have hp:=zkf hs _ (zfk s k .zero hk)
  rw[List.pairwise_iff_getElem] at hp
  obtain⟨i,hi,e⟩:=List.getElem_of_mem hf
  have hij:i<j:=by rw[List.length_take] at hi;omega
  have h3:=(hp i j (by omega) hj hij).1
  apply h3
  rw[List.getElem_take] at e
  rw[e,h2,List.getD_eq_getElem?_getD,List.getElem?_eq_getElem hj];rfl
def zok (w:World)(s:List Mes)(e:Ending)(w':World):Prop:=∃ r,e= .returned (.map (some r))∧zas w' r zc4 (zaE s 0)∧Below w.heap.size w w'
theorem zmL {w:World}{sv:Value}{s:List Mes}(hS:zaj w sv s)(hs:zaC s=true) :
  Calls Tryz.prog 84 #[sv] w (zok w s):=by
 have HSR:=hid hs
 obtain⟨hm,sa,sc,rfl,hsat⟩:=hS.open
 obtain⟨m,HM⟩:∃ m,Hid (m=s.length):=⟨_,rfl⟩
 rw[←HM.out] at hm hsat ⊢
 have HSAT:=hid hsat
 have hmm:=@run_makeMap Tryz.prog
 have HM0:Hid (zas (w.alloc (.map #[] 0)) w.heap.size zc4 []∧Below w.heap.size w (w.alloc (.map #[] 0))):=⟨heap_alloc_new w _,(Below.refl _ _).alloc (Nat.le_refl _) _⟩
 clear hS hs hsat
 go_enter Tryz.func84,Tryz.ntmps84
 go_wp2_with fail
 clear hmm
 go_loopw [11] (fun v11 wr=>∃ k:Nat,v11= .int .i64 k∧k≤m∧Hid (zas wr w.heap.size zc4 (zaE (s.take k) 0)∧Below w.heap.size w wr)) (fun v11 _=>m - (intOf v11).toNat)
 case atStart=>exact⟨0,rfl,by omega,HM0.out⟩
 case round =>
  obtain⟨k,rfl,hk,HI⟩:=hrel
  by_cases hlt:k<m
  ·
   obtain⟨b2,o2,fv,ha2,hnl,g1,g2,hF⟩:=HSAT.out k hlt
   have hix2:=zad Tryz.underlying23 zbV ha2 k hlt (cap:=sc)
   have hkp:=zaa HI.out.2
   replace g1:=hkp _ _ g1
   replace g2:=hkp _ _ g2
   obtain⟨fs,HFS⟩:∃ fs,Hid (fs=(s.getD k .zero).fields):=⟨_,rfl⟩
   rw[←HFS.out] at hF
   obtain⟨nm,HNM⟩:∃ nm,Hid (nm=(s.getD k .zero).name):=⟨_,rfl⟩
   rw[←HNM.out] at g1
   obtain⟨hfl,fa,fc,rfl,hfat⟩:=hF.open
   obtain⟨fn,HFN⟩:∃ fn,Hid (fn=fs.length):=⟨_,rfl⟩
   rw[←HFN.out] at hfl hfat g2
   have HFAT:=hid hfat
   obtain⟨wo,rfl⟩:∃ wo:World,wo=wr:=⟨_,rfl⟩
   clear ha2 hnl hF hkp hfat
   go_wp2_with fail
   go_loopw [19] (fun v19 wr=>∃ j:Nat,v19= .int .i64 j∧j≤fn∧Hid (zas wr w.heap.size zc4 (zaE (s.take k) 0++zaZ k (fs.take j))∧Below w.heap.size w wr)) (fun v19 _=>fn - (intOf v19).toNat)
   case atStart =>
    refine⟨0,rfl,by omega,?_,?_⟩
    ·
     rw[List.take_zero];simp only[zaZ,List.map_nil,List.append_nil]
     exact zeY HI.out.1 (by (with_reducible repeat first|exact Below.refl _ _|refine pzA ?_ _|refine pzB ?_ _|refine zab ?_ _|refine Below.drew ?_))
    ·
     refine HI.out.2.trans (Below.mono ?_ HI.out.2.size)
     (with_reducible repeat first|exact Below.refl _ _|refine pzA ?_ _|refine pzB ?_ _|refine zab ?_ _|refine Below.drew ?_)
   case round =>
    obtain⟨j,rfl,hj,HJ⟩:=hrel
    by_cases hlt2:j<fn
    ·
     obtain⟨b3,o3,ha3,hok,f0,f1,f2,f3,f4,f5⟩:=HFAT.out j hlt2
     have hix3:=zad Tryz.underlying62 zbW ha3 j hlt2 (cap:=fc)
     have hkp:=zaa HJ.out.2
     replace f0:=hkp _ _ f0
     replace f1:=hkp _ _ f1
     replace f2:=hkp _ _ f2
     replace f3:=hkp _ _ f3
     replace f4:=hkp _ _ f4
     replace f5:=hkp _ _ f5
     obtain⟨f,HF⟩:∃ f,Hid (f=fs.getD j .zero):=⟨_,rfl⟩
     have HST:Hid (zaZ k (fs.take (j+1))=zaZ k (fs.take j)++[(((k:Int),f.number),f.val)]):=by
      rw[Hid,zhN (by rw[←HFN.out];exact hlt2),HF.out]
     have hnew:zal ((k:Int),f.number) (zaE (s.take k) 0++zaZ k (fs.take j))=none:=by
      have:=zoj HSR.out (k:=k) (j:=j) (by rw[←HM.out];exact hlt) (by rw[←HFS.out,←HFN.out];exact hlt2)
      rw[←HFS.out,←HF.out] at this
      exact this
     rw[←HF.out] at f0 f1 f2 f3 f4 f5
     obtain⟨es,HES⟩:∃ es,Hid (es=zaE (s.take k) 0++zaZ k (fs.take j)):=⟨_,rfl⟩
     rw[←HES.out] at hnew
     have HEN:Hid (zaE (s.take k) 0++zaZ k (fs.take (j+1))=es++[(((k:Int),f.number),f.val)]):=by
      rw[Hid,HST.out,HES.out,List.append_assoc]
     have hMI:zas wr w.heap.size zc4 es:=by rw[HES.out];exact HJ.out.1
     obtain⟨fname,fnum,fkind,frep,fpack,fof⟩:=f
     have hA:Below wr.heap.size wr (wr.alloc (.cells #[.string fname,.int .i64 fnum,.int .i64 fkind,.bool frep,.bool fpack,.int .i64 fof] 51)):=(Below.refl _ _).alloc (Nat.le_refl _) _
     have hMA:=zeY hMI hA
     have hins:=zes (P:=Tryz.prog) zoi Tryz.underlying139 hMA ((k:Int),fnum) (Fld.val ⟨fname,fnum,fkind,frep,fpack,fof⟩) hnew
     unfold zc4 Fld.val at hins
     obtain⟨W,HW⟩:∃ W,Hid (W=za9 (wr.alloc (.cells #[.string fname,.int .i64 fnum,.int .i64 fkind,.bool frep,.bool fpack,.int .i64 fof] 51)) w.heap.size zc4 (es++[(((k:Int),fnum),Fld.val ⟨fname,fnum,fkind,frep,fpack,fof⟩)])):=⟨_,rfl⟩
     have HREL:Hid (zas W w.heap.size zc4 (zaE (s.take k) 0++zaZ k (fs.take (j+1)))∧Below w.heap.size w W):=by
      rw[Hid,HEN.out,HW.out]
      have hsz:w.heap.size<(wr.alloc (.cells #[.string fname,.int .i64 fnum,.int .i64 fkind,.bool frep,.bool fpack,.int .i64 fof] 51)).heap.size:=(Array.getElem?_eq_some_iff.1 hMA).1
      exact⟨zb8 hsz,zkg (HJ.out.2.alloc HJ.out.2.size _) (Nat.le_refl _)⟩
     have HINS:Hid ((Instr.mapUpdate 139 (.map (some w.heap.size)) (.agg #[.int .i64 (k:Int),.int .i64 fnum]) (.agg #[.string fname,.int .i64 fnum,.int .i64 fkind,.bool frep,.bool fpack,.int .i64 fof])).run Tryz.prog (wr.alloc (.cells #[.string fname,.int .i64 fnum,.int .i64 fkind,.bool frep,.bool fpack,.int .i64 fof] 51))= .ok () W):=by
      rw[Hid,HW.out];exact hins
     have hins2:=HINS.out
     simp only at f0 f1 f2 f3 f4 f5
     clear hins hMA hA hMI hnew hok ha3 hkp
     go_wp2_with fail
     go_roundw
     case rel=>exact⟨j+1,by go_num,hlt2,HREL.out⟩
     case measure=>simp[intOf];omega
    ·
     obtain rfl:j=fn:=by omega
     have HREL:Hid (zas wr w.heap.size zc4 (zaE (s.take (k+1)) 0)∧Below w.heap.size w wr):=by
      have h1:=HJ.out.1
      rw[show fs.take j=fs from List.take_of_length_le (by rw[HFN.out];exact Nat.le_refl _),HFS.out] at h1
      rw[Hid,zkh (by rw[←HM.out];exact hlt)]
      exact And.intro h1 HJ.out.2
     clear hlt2
     go_wp2_with fail
     go_roundw
     case rel=>exact⟨k+1,by go_num,hlt,HREL.out⟩
     case measure=>simp[intOf];omega
  ·
   obtain rfl:k=m:=by omega
   have HFIN:Hid (zas wr w.heap.size zc4 (zaE s 0)):=by
    have h1:=HI.out.1
    rw[List.take_of_length_le (by rw[←HM.out];exact Nat.le_refl _)] at h1
    exact h1
   go_wp2_with fail
   go_ret
   exact⟨_,rfl,HFIN.out,HI.out.2⟩
end
section
open Go.RowKit
end
section
open Go.RowKit
theorem zol {w:World}{p:List UInt8}{y:Bool}(hy:zdi p=y):∀ e w',zen w p e w'→∃ (v':Value) (c:Int),e= .returned (.tuple #[v',.int .u8 c])∧Hid (c=if y=true then 0 else 12)∧zaq w' w.heap.size v' (if y=true then zdg p else [])∧Below w.heap.size w w':=by
 rintro e w' ⟨v',h1,h2,h3⟩
 subst hy
 refine⟨v',_,h1,?_,h2,h3⟩
 cases zdi p <;> rfl
theorem zom {w:World}{base:Nat}{v:Value}{p:List UInt8}(h:zaq w base v (zdg p))(hp:p.length≤549755813888):zaV w v (zdg p):=
 h.strs (by have:=zlO p;omega) fun t ht=>by have:=zfX p t ht;omega
theorem zmM {l:List (List UInt8)}(h:zdX l=true):∀ x∈l,(46:UInt8) ∉ x:=by
 intro x hx hm
 unfold zdX at h
 have h1:=List.all_eq_true.1 h x hx
 unfold zan at h1
 rw[Bool.and_eq_true] at h1
 obtain⟨k,hk⟩:=List.mem_iff_getElem?.1 hm
 obtain⟨hkl,hk2⟩:=List.getElem?_eq_some_iff.1 hk
 have h2:=List.all_eq_true.1 h1.1 k (List.mem_range.2 (by rw[zdh];exact hkl))
 have hb:zcf ⟨x.toArray⟩ k=46:=by simp[zcf,hkl,hk2]
 rw[hb] at h2
 unfold za0 zaP at h2
 simp at h2
def zbU (l:List (List UInt8)):Bool:=zdX l&&decide (1≤l.length∧l.length≤65)
theorem zmN (l:List (List UInt8)):(zdi (zbl l)&&decide (zdg (zbl l)=l))=zbU l:=by
 by_cases h:zbU l=true
 ·
  rw[h]
  unfold zbU at h
  rw[Bool.and_eq_true] at h
  have h2:=of_decide_eq_true h.2
  have h3:zdg (zbl l)=l:=zii (fun e=>by rw[e] at h2;simp at h2) (zmM h.1)
  rw[zdi,h3,h.1]
  simp[h2.2]
 ·
  have hf:zbU l=false:=by simpa using h
  rw[hf]
  by_cases h3:zdg (zbl l)=l
  ·
   have:zdi (zbl l)=false:=by
    cases hp:zdi (zbl l) with
    | false=>rfl
    | true =>
     exfalso
     apply h
     unfold zdi at hp
     rw[h3,Bool.and_eq_true] at hp
     unfold zbU
     rw[hp.2,Bool.true_and]
     refine decide_eq_true ⟨?_,of_decide_eq_true hp.1⟩
     obtain⟨x,r,e⟩:=zkd (zbl l)
     rw[h3] at e
     rw[e];simp
   rw[this,Bool.false_and]
  ·
   rw[decide_eq_false h3,Bool.and_false]
theorem zgw:∀ l:List (List UInt8),(l.map fun t=>(⟨t.toArray⟩:ByteArray)).map (fun s:ByteArray=>s.data.toList)=l
 | []=>rfl
 | x::r=>by rw[List.map_cons,List.map_cons,zgw r]
theorem zmO {w:World}{v u:Value}{l m:List (List UInt8)}(h:zaV w v l)(hu:zaV w u m) :
  Calls Tryz.prog 126 #[v,u] w fun e w'=>e= .returned (.bool (decide (l=m)))∧Below w.heap.size w w':=by
 obtain⟨hl,a,c,rfl,-,hat⟩:=h.open
 obtain⟨hm,a2,c2,rfl,-,hbt⟩:=hu.open
 by_cases hn:l.length=m.length
 ·
  by_cases h0:l.length=0
  ·
   obtain rfl:l=[]:=List.eq_nil_of_length_eq_zero h0
   obtain rfl:m=[]:=List.eq_nil_of_length_eq_zero (by omega)
   refine (Tryz.slices_Equal_string_empty a a2 c 0 c2 w (by omega)).mono ?_
   rintro e w' ⟨h1,rfl⟩
   exact⟨by rw[h1];simp,Below.refl _ _⟩
  ·
   obtain⟨-,b,o,rfl,-⟩:=hat 0 _ (List.getElem?_eq_getElem (by omega))
   obtain⟨-,b2,o2,rfl,-⟩:=hbt 0 _ (List.getElem?_eq_getElem (by omega))
   have hc:∀ (l:List (List UInt8)) (b o:Nat),(∀ k t,l[k]?=some t→t.length≤140737488355328∧∃ b' o',(some ⟨b,o,none⟩:Option Addr)=some ⟨b',o',none⟩∧w.cell? ⟨b',o'+k,none⟩=some (zbA t)) →
     ∀ j,j<(l.map fun t=>(⟨t.toArray⟩:ByteArray)).length→w.cell? ⟨b,o+j,none⟩=some (.string ((l.map fun t=>(⟨t.toArray⟩:ByteArray)).getD j ByteArray.empty)):=by
    intro l b o hat j hj
    rw[List.length_map] at hj
    obtain⟨-,b',o',e,hcell⟩:=hat j _ (List.getElem?_eq_getElem hj)
    cases e
    rw[hcell]
    simp[zbA,hj]
   refine (Tryz.slices_Equal_string b o l.length c b2 o2 m.length c2 (l.map fun t=>⟨t.toArray⟩) (m.map fun t=>⟨t.toArray⟩) w (by simp) (by simp) (by omega) (by omega) (hc l b o hat) (hc m b2 o2 hbt)).mono ?_
   rintro e w' ⟨h1,q,rfl⟩
   refine⟨?_,zab (Below.refl _ _) _⟩
   rw[h1,List.take_of_length_le (by simp),List.take_of_length_le (by simp)]
   have:((l.map fun t=>(⟨t.toArray⟩:ByteArray))=m.map fun t=>⟨t.toArray⟩)↔l=m:=by
    constructor
    ·
     intro e
     have:=congrArg (List.map fun s:ByteArray=>s.data.toList) e
     rwa [zgw,zgw] at this
    ·
     rintro rfl;rfl
   rw[decide_eq_decide.2 this]
 ·
  refine (Tryz.slices_Equal_string_lens a a2 l.length c m.length c2 w hn).mono ?_
  rintro e w' ⟨h1,rfl⟩
  exact⟨by rw[h1,decide_eq_false (fun e=>hn (by rw[e]))],Below.refl _ _⟩
theorem zon {w:World}{v:Value}{l:List (List UInt8)}(h:zaV w v l)(hw:twt l≤549755813888) :
  Calls Tryz.prog 124 #[v,.string ⟨#[46]⟩] w fun e w'=>e= .returned (zbA (zbl l))∧Below w.heap.size w w':=by
 obtain⟨hl,a,c,rfl,-,hat⟩:=h.open
 have hcap:l.length≤c:=by
  obtain⟨⟨_,_,a',c',e,h3,_⟩,_⟩:=h
  cases e;exact h3
 by_cases h0:l.length=0
 ·
  obtain rfl:l=[]:=List.eq_nil_of_length_eq_zero h0
  refine (Tryz.strings_Join_none a c ⟨#[46]⟩ w).mono ?_
  rintro e w' ⟨h1,rfl⟩
  exact⟨h1,Below.refl _ _⟩
 ·
  obtain⟨-,b,o,rfl,hc0⟩:=hat 0 _ (List.getElem?_eq_getElem (by omega))
  have hmap:(l.map fun t=>(⟨t.toArray⟩:ByteArray)).map (·.data.toList)=l:=zgw l
  have hj:=Tryz.strings_Join b o c (l.map fun t=>⟨t.toArray⟩) ⟨#[46]⟩ w (fun j x hx=>by
   simp only[List.getElem?_map,Option.map_eq_some_iff] at hx
   obtain⟨t,ht,rfl⟩:=hx
   obtain⟨-,b',o',e,hcell⟩:=hat j t ht
   cases e
   exact hcell) (World.block_lt_of_cell? w _ hc0) (by simpa using hl) (by simpa using hcap) (by
    rw[hmap]
    show (Lib.join l [46]).length≤_
    rw[zho]
    have:=zeo l
    omega)
  rw[hmap,List.length_map] at hj
  refine hj.mono ?_
  rintro e w' ⟨h1,h2⟩
  refine⟨?_,h2⟩
  rw[h1]
  show Ending.returned (.string ⟨(Lib.join l [46]).toArray⟩)=_
  rw[zho];rfl
theorem zoo {w:World}{v:Value}{l:List (List UInt8)}(h:zaV w v l)(hw:twt l≤549755813888) :
  Calls Tryz.prog 85 #[v] w fun e w'=>e= .returned (.tuple #[zbA (if zbU l=true then zbl l else []),.int .u8 ((if zbU l=true then 0 else 12:Nat):Int)])∧Below w.heap.size w w':=by
 have HJ:=hid (zon h hw)
 have HST:=hid h
 obtain⟨hl,a,c,rfl,-,-⟩:=h.open
 obtain⟨n,HN⟩:∃ n,Hid (n=l.length):=⟨_,rfl⟩
 rw[←HN.out] at hl HJ HST ⊢
 have hjl:(zbl l).length≤549755813888:=Nat.le_trans (zeo l) hw
 have HSP:Hid (∀ W,Calls Tryz.prog 125 #[zbA (zbl l)] W (zen W (zbl l))):=fun W=>zmH (w:=W) (zbl l) (by omega)
 have HJL:=hid hjl
 obtain⟨js,HJS⟩:∃ s:ByteArray,Hid (s=⟨(zbl l).toArray⟩):=⟨_,rfl⟩
 have HV:Hid (zbA (zbl l)= .string js):=by rw[HJS.out];rfl
 rw[HV.out] at HJ HSP
 obtain⟨r1,HR1⟩:∃ r:Value,Hid (r=zbA (if zbU l=true then zbl l else [])):=⟨_,rfl⟩
 obtain⟨r2,HR2⟩:∃ r:Nat,Hid (r=if zbU l=true then 0 else 12):=⟨_,rfl⟩
 rw[←HR1.out,←HR2.out]
 obtain⟨y,HY⟩:∃ y,Hid (zdi (zbl l)=y):=⟨_,rfl⟩
 obtain⟨z,HZ⟩:∃ z,Hid (decide (zdg (zbl l)=l)=z):=⟨_,rfl⟩
 have HYZ:Hid (zbU l=(y&&z)):=by rw[Hid,←zmN,HY.out,HZ.out]
 have HBAD:Hid (zbU l=false→r1= .string ⟨#[]⟩∧r2=12):=by
  intro hb
  rw[HR1.out,HR2.out,hb]
  exact⟨rfl,rfl⟩
 clear h hw hjl
 go_enter Tryz.func85,Tryz.ntmps85
 go_wp2_with fail
 refine HJ.out.mono ?_
 rintro e w1 ⟨rfl,hb1⟩
 have HB1:=hid hb1
 clear hb1
 go_wp2_with fail
 refine (HSP.out _).mono ?_
 intro e w2 h2
 obtain⟨v2,c2,rfl,HC2,hO2,hb2⟩:=zol HY.out e w2 h2
 have HO2:=hid hO2
 have HB2:=hid (HB1.out.trans (hb2.mono HB1.out.size))
 have HST2:=hid (HST.out.keep (zaa HB2.out))
 clear h2 hO2 hb2
 cases y with
 | false =>
  obtain rfl:c2=12:=HC2.out
  have HE:=hid (HBAD.out (by rw[HYZ.out];rfl))
  go_wp2_with fail
  go_ret2
  exact⟨by rw[HE.out.1,HE.out.2];first|done|rfl,HB2.out⟩
 | true =>
  obtain rfl:c2=0:=HC2.out
  have HO3:Hid (zaq w2 w1.heap.size v2 (zdg (zbl l))):=HO2.out
  have HEQ:=hid (zmO (zom HO3.out HJL.out) HST2.out)
  rw[HZ.out] at HEQ
  go_wp2_with fail
  refine HEQ.out.mono ?_
  rintro e w3 ⟨rfl,hb3⟩
  have HB3:=hid (HB2.out.trans (hb3.mono HB2.out.size))
  clear hb3
  cases z with
  | false =>
   have HE:=hid (HBAD.out (by rw[HYZ.out];rfl))
   go_wp2_with fail
   go_ret2
   exact⟨by rw[HE.out.1,HE.out.2];first|done|rfl,HB3.out⟩
  | true =>
   have HE:Hid (r1= .string js∧r2=0):=by
    have hj:zbU l=true:=by rw[HYZ.out];rfl
    refine⟨by rw[HR1.out,if_pos hj,HV.out],by rw[HR2.out,if_pos hj]⟩
   go_wp2_with fail
   go_ret2
   exact⟨by rw[HE.out.1,HE.out.2];first|done|rfl,HB3.out⟩
end
section
open Go.RowKit
def zcA (s:List Mes)(root:Int):List (List Int)→Option (List (List UInt8))
 | []=>some []
 | w::r=>match zaz s root w with
  | none=>none
  | some ns=>if zbU ns=true then (zcA s root r).map (zbl ns :: ·) else none
def zc5 (s:List Mes)(root:Int)(ws:List (List Int)):Nat × List (List UInt8):=
 if zbm s root≠0 then (zbm s root,[]) else if zeX ws=false then (10,[]) else match zcA s root ws with|some l=>(0,l)|none=>(10,[])
theorem zk8 {s:List Mes}(h:zaC s=true)(m:Mes)(hm:m∈s)(f:Fld)(hf:f∈m.fields):f.name.size≤60:=by
 have h0:(zbj s).2.2=0:=of_decide_eq_true h
 unfold zbj at h0
 by_cases h1:s.length=0∨100<s.length
 ·
  rw[if_pos h1] at h0;simp at h0
 rw[if_neg h1] at h0
 obtain⟨h2,-,-⟩:=zck s [] 0 h0 _ hm
 obtain⟨nm,nu,h3⟩:=zby _ _ _ h2 f hf
 have h4:=(zbL h3).1
 unfold zan at h4
 simp at h4
 exact h4.2.2
theorem zhO {s:List Mes}{root n:Int}{f:Fld}(h:zbh s root n=some f)(h0:0≤root)(h1:root<s.length):f∈(s.getD root.toNat .zero).fields∧s.getD root.toNat .zero∈s∧f.number=n:=by
 unfold zbh at h
 have h2:=List.mem_of_find?_eq_some h
 have h3:=List.find?_some h
 exact⟨h2,zfk _ _ _ (by omega),by simpa using h3⟩
theorem zmP {w:World}{r:Nat}{s:List Mes}(h:zas w r zc4 (zaE s 0)){root n:Int}(h0:0≤root)(h1:root<s.length) :
  (Instr.lookup 139 (.map (some r)) (.agg #[.int .i64 root,.int .i64 n]) true).run Tryz.prog w= .ok (.tuple #[((zbh s root n).map Fld.val).getD (Fld.val .zero),.bool (zbh s root n).isSome]) w:=by
 have hz:∀ w:World,(zeroValue 51).run Tryz.prog w= .ok (Fld.val .zero) w:=fun w=>by kernel_rfl
 have:=zb3 (P:=Tryz.prog) zoi Tryz.underlying139 hz h (root,n) true
 rw[zk7 h0 h1] at this
 simp only[zc4,if_true] at this
 rw[this]
 cases zbh s root n <;> rfl
def zhr (w:World)(x:Nat × List (List UInt8))(e:Ending)(w':World):Prop:=∃ v',e= .returned (.tuple #[v',.int .u8 (x.1:Nat)])∧zaq w' w.heap.size v' x.2∧Below w.heap.size w w'
theorem zop:∀ l:List (List UInt8),(∀ t∈l,t.length≤60)→twt l≤61*l.length
 | [],_=>by simp[twt]
 | x::r,h=>by
  have h1:=zop r fun t ht=>h t (by simp[ht])
  have h2:=h x (by simp)
  unfold twt at h1 ⊢
  rw[List.map_cons,List.sum_cons,List.length_cons]
  omega
theorem zmQ {w:World}{sv mv:Value}{s:List Mes}{ws:List (List Int)}(hS:zaj w sv s)(root:Int)(hM:zaM w mv ws)(hL:zdc ws)(hL2:∀ l∈ws,l.length≤1073741824) :
  Calls Tryz.prog 50 #[sv,.int .i64 root,zb1 mv] w (zhr w (zc5 s root ws)):=by
 unfold zb1
 obtain⟨wB,HWB⟩:∃ wB,Hid (wB=w.alloc (.cells #[mv] 69)):=⟨_,rfl⟩
 have hB0:Below w.heap.size w wB:=by rw[HWB.out];(with_reducible repeat first|exact Below.refl _ _|refine pzA ?_ _|refine pzB ?_ _|refine zab ?_ _|refine Below.drew ?_)
 have HB0:=hid hB0
 have hbx:Blk wB w.heap.size [mv] 69:=by rw[HWB.out];exact Blk.new w [mv] _
 have HS:=hid (hS.below hB0)
 have HMW:=hid (hM.below hB0)
 have HAR:=hid (zoh (hS.below hB0) root)
 have HLL:=hid hL
 have HL2:=hid hL2
 obtain⟨-,sa,sc,rfl,-⟩:=hS.open
 obtain⟨m,HM⟩:∃ m,Hid (m=s.length):=⟨_,rfl⟩
 rw[←HM.out] at HS HAR ⊢
 obtain⟨-,ma,mc,rfl,-,-⟩:=hM.open
 obtain⟨n,HN⟩:∃ n,Hid (n=ws.length):=⟨_,rfl⟩
 rw[←HN.out] at HMW HWB hbx ⊢
 have HBX:=hid hbx
 obtain⟨Q,HQ⟩:∃ Q:Ending→World→Prop,Hid (Q=zhr w (zc5 s root ws)):=⟨_,rfl⟩
 rw[←HQ.out]
 have HBAD:Hid (∀ w' (c:Nat),Below w.heap.size w w'→zc5 s root ws=(c,[])→Q (.returned (.tuple #[.slice none 0 0,.int .u8 (c:Int)])) w'):=by
  intro w' c hb h
  rw[HQ.out,h]
  exact⟨_,rfl,World.ownsRow_nil _ _ _ _,hb⟩
 obtain⟨ac,HAC⟩:∃ ac,Hid (ac=zbm s root):=⟨_,rfl⟩
 rw[←HAC.out] at HAR
 have HCASES:=hid (zhM s root)
 clear hS hM hL hL2 hB0 hbx
 by_cases hac:ac=0
 ·
  obtain⟨hsr,hr0,hr1⟩:zaC s=true∧0≤root∧root<s.length:=by
   rcases HCASES.out with h|h|h
   ·
    rw[←HAC.out,hac] at h;cases h
   ·
    rw[←HAC.out,hac] at h;cases h
   ·
    exact h.2
  have HAZ:Hid (zbm s root=0):=by rw[Hid,←HAC.out];exact hac
  subst hac
  have HE:Hid (zc5 s root ws=if zeX ws=false then (10,[]) else match zcA s root ws with|some l=>(0,l)|none=>(10,[])):=by
   rw[Hid,zc5,if_neg (by rw[HAZ.out];decide)]
  have HSR:=hid hsr
  have HR01:=hid (And.intro hr0 hr1)
  clear hsr hr0 hr1
  go_enter Tryz.func50,Tryz.ntmps50
  go_wp2_with fail
  rw[←HWB.out]
  refine HAR.out.mono ?_
  rintro e w1 ⟨rfl,hb1⟩
  have HB1:Hid (Below w.heap.size w w1):=zai HB0.out hb1 HB0.out.size
  have c0:=(HBX.out.below hb1).cell 0 _ rfl
  have HBX1:=hid (HBX.out.below hb1)
  have hri:=zmA (HMW.out.below hb1) HLL.out
  unfold zb1 at hri
  obtain⟨z,HZ⟩:∃ z,Hid (z=zeX ws):=⟨_,rfl⟩
  rw[←HZ.out] at hri HE
  have HRI:=hid hri
  have HS1:=hid (HS.out.below hb1)
  have HMW1:=hid (HMW.out.below hb1)
  clear hb1 hri
  go_wp2_with fail
  refine HRI.out.mono ?_
  rintro e w2 ⟨rfl,hb2⟩
  have HB2:Hid (Below w.heap.size w w2):=zai HB1.out hb2 HB1.out.size
  cases z with
  | false =>
   clear hb2
   go_wp2_with fail
   exact HBAD.out _ 10 HB2.out (by rw[HE.out];rfl)
  | true =>
   have HE2:Hid (zc5 s root ws=match zcA s root ws with|some l=>(0,l)|none=>(10,[])):=by rw[Hid,HE.out];rfl
   have HST:=hid (zmL (HS1.out.below hb2) HSR.out)
   have HBX2:=hid (HBX1.out.below hb2)
   have HMW2:=hid (HMW1.out.below hb2)
   clear hb2 c0
   go_wp2_with fail
   refine HST.out.mono ?_
   rintro e w3 ⟨mr,rfl,hMI,hb3⟩
   have HB3:Hid (Below w.heap.size w w3):=zai HB2.out hb3 HB2.out.size
   have c0:=(HBX2.out.below hb3).cell 0 _ rfl
   have HMI:=hid hMI
   have HMW3:=hid (HMW2.out.below hb3)
   obtain⟨-,ma',mc',he,-,hat⟩:=HMW3.out.open
   rw[←HN.out] at he
   cases he
   have HAT:=hid hat
   have hn:n≤1099511627776:=by rw[HN.out];exact HLL.out.1
   clear hMI hb3 hat
   go_wp2_with fail
   go_loopw [10,35] (fun v10 v35 wr=>∃ (i:Nat) (ls:List (List UInt8)),v35= .int .i64 i∧i≤n∧Hid (zaq wr w3.heap.size v10 ls∧Below w3.heap.size w3 wr∧ls.length=i∧zcA s root ws=(zcA s root (ws.drop i)).map (ls ++ ·))) (fun _ v35 _=>n - (intOf v35).toNat)
   case atStart=>exact⟨0,[],rfl,by omega,World.ownsRow_nil _ _ _ _,Below.refl _ _,rfl,by simp⟩
   case round =>
    obtain⟨i,ls,rfl,hi,HI⟩:=hrel
    obtain⟨oa,oc,hoe⟩:=HI.out.1.form
    rw[HI.out.2.2.1] at hoe
    subst hoe
    by_cases hlt:i<n
    ·
     obtain⟨y,hy⟩:=zeS HN.out hlt
     obtain⟨b,o,ya,yc,ha,g0,hY⟩:=HAT.out i y hy
     have hix:=zag Tryz.underlying67 zcT ha i hlt (cap:=mc)
     replace g0:=zaa HI.out.2.1 _ _ g0
     have HYL:Hid (y.length≤1073741824):=HL2.out y (List.mem_of_getElem? hy)
     obtain⟨yn,HYN⟩:∃ yn,Hid (yn=y.length):=⟨_,rfl⟩
     have hyn:yn≤1073741824:=by rw[HYN.out];exact HYL.out
     rw[←HYN.out] at g0 hY
     have HD:=hid (zbS hy)
     obtain⟨-,ya',yc',hye,-,hyat⟩:=hY.open
     rw[←HYN.out] at hye
     cases hye
     have HYAT:=hid hyat
     have HPW:Hid (zcA s root ws=match zaz s root y with|none=>none|some ns=>if zbU ns=true then (zcA s root (ws.drop (i+1))).map ((ls++[zbl ns]) ++ ·) else none):=by
      rw[Hid,HI.out.2.2.2,HD.out,zcA]
      cases zaz s root y with
      | none=>rfl
      | some ns =>
       simp only
       split
       ·
        cases zcA s root (ws.drop (i+1)) <;> simp
       ·
        rfl
     obtain⟨wo,rfl⟩:∃ wo:World,wo=wr:=⟨_,rfl⟩
     clear hy ha hY hyat
     go_wp2_with fail
     go_loopw [13,14,42] (fun v13 v14 v42 wr=>∃ (at':Int) (q:Nat) (ns:List (List UInt8)),v13= .int .i64 at'∧v42= .int .i64 q∧q≤yn∧Hid (zaq wr wo.heap.size v14 ns∧Below wo.heap.size wo wr∧ns.length=q∧zaz s root y=(zaz s at' (y.drop q)).map (ns ++ ·)∧(q<yn→0≤at'∧at'<s.length)∧∀ t∈ns,t.length≤60)) (fun _ _ v42 _=>yn - (intOf v42).toNat)
     case atStart=>exact⟨root,0,[],rfl,rfl,by omega,World.ownsRow_nil _ _ _ _,Below.refl _ _,rfl,by simp,fun _=>HR01.out,by simp⟩
     case round =>
      obtain⟨at',q,ns,rfl,rfl,hq,HJ⟩:=hrel
      obtain⟨na,nc,hne⟩:=HJ.out.1.form
      rw[HJ.out.2.2.1] at hne
      subst hne
      by_cases hlt2:q<yn
      ·
       obtain⟨nb,hnb⟩:=zdJ HYN.out hlt2
       obtain⟨h64,b2,o2,ha2,g2⟩:=HYAT.out q nb hnb
       have hix2:=zag Tryz.underlying28 zbr ha2 q hlt2 (cap:=yc)
       have hbw:Below w3.heap.size w3 wr:=HI.out.2.1.trans (HJ.out.2.1.mono HI.out.2.1.size)
       replace g2:=zaa hbw _ _ g2
       have HDQ:=hid (zbS hnb)
       obtain⟨hat0,hat1⟩:=HJ.out.2.2.2.2.1 hlt2
       have hlook:=zmP (zeY HMI.out hbw) (n:=nb) hat0 hat1
       obtain⟨of,HOF⟩:∃ of,Hid (of=zbh s at' nb):=⟨_,rfl⟩
       have HFM:Hid (∀ f,of=some f→f∈(s.getD at'.toNat .zero).fields∧s.getD at'.toNat .zero∈s∧f.number=nb):=fun f hf=>zhO (HOF.out ▸ hf) hat0 hat1
       rw[←HOF.out] at hlook
       have HAT01:=hid (And.intro hat0 hat1)
       clear hnb ha2 h64 hbw hat0 hat1
       cases of with
       | none =>
        have HX:Hid (zc5 s root ws=(10,[])):=by
         rw[Hid,HE2.out,HPW.out,HJ.out.2.2.2.1,HDQ.out,zaz,←HOF.out];rfl
        have HBW:Hid (Below w.heap.size w wr):=HB3.out.trans ((HI.out.2.1.trans (HJ.out.2.1.mono HI.out.2.1.size)).mono HB3.out.size)
        simp only[Option.map_none,Option.getD_none,Option.isSome_none,Fld.val,Fld.zero] at hlook
        go_wp2_with fail
        exact HBAD.out _ 10 (HBW.out.alloc HBW.out.size _) HX.out
       | some f =>
        obtain⟨hfm,hsm,hfn⟩:=HFM.out f rfl
        have HN60:Hid (f.name.size≤60):=zk8 HSR.out _ hsm f hfm
        have HK17:Hid (f.kind=17→0≤f.of∧f.of<s.length):=by
         refine (zeb HSR.out at'.toNat ?_ f hfm).2.1
         have:=HAT01.out;omega
        have HNW:Hid (zaz s root y=if y.drop (q+1)≠[]∧(f.rep=true∨f.kind≠17) then none else (zaz s f.of (y.drop (q+1))).map ((ns++[f.name.data.toList]) ++ ·)):=by
         rw[Hid,HJ.out.2.2.2.1,HDQ.out,zaz,←HOF.out]
         simp only
         split
         ·
          rfl
         ·
          cases zaz s f.of (y.drop (q+1)) <;> simp
        have HNIL:Hid (y.drop (q+1)≠[]↔q+1<yn):=by
         show _↔_
         rw[HYN.out]
         constructor
         ·
          intro h
          rcases Nat.lt_or_ge (q+1) y.length with h1|h1
          ·
           exact h1
          ·
           exact absurd (List.drop_eq_nil_of_le h1) h
         ·
          intro h e
          have:=congrArg List.length e
          simp at this;omega
        have HBW:Hid (Below w.heap.size w wr):=HB3.out.trans ((HI.out.2.1.trans (HJ.out.2.1.mono HI.out.2.1.size)).mono HB3.out.size)
        simp only[Option.map_some,Option.getD_some,Option.isSome_some,Fld.val] at hlook
        obtain⟨fname,fnum,fkind,frep,fpack,fof⟩:=f
        simp only at HN60 HK17 HNW hlook
        clear hfm hsm hfn
        by_cases hbad:q+1<yn∧(frep=true∨fkind≠17)
        ·
         have HX:Hid (zc5 s root ws=(10,[])):=by
          rw[Hid,HE2.out,HPW.out,HNW.out,if_pos ⟨HNIL.out.2 hbad.1,hbad.2⟩]
         obtain⟨hb1,hb2⟩:=hbad
         have e1:decide ((q:Int)<(yn:Int) - 1)=true:=decide_eq_true (by omega)
         cases frep with
         | true =>
          go_wp2_with fail
          exact HBAD.out _ 10 (HBW.out.alloc HBW.out.size _) HX.out
         | false =>
          have h17:fkind≠17:=by rcases hb2 with h|h;cases h;exact h
          have k1:(fkind != 17)=true:=by simpa using h17
          have k2:(fkind == 17)=false:=by simpa using h17
          clear hb2 h17
          go_wp2_with fail
          exact HBAD.out _ 10 (HBW.out.alloc HBW.out.size _) HX.out
        ·
         rw[if_neg (fun h=>hbad ⟨HNIL.out.1 h.1,h.2⟩)] at HNW
         obtain⟨W1,HW1⟩:∃ W1,Hid (W1=wr.alloc (.cells #[.string fname,.int .i64 fnum,.int .i64 fkind,.bool frep,.bool fpack,.int .i64 fof] 51)):=⟨_,rfl⟩
         have hbx:Blk W1 wr.heap.size [.string fname,.int .i64 fnum,.int .i64 fkind,.bool frep,.bool fpack,.int .i64 fof] 51:=by rw[HW1.out];exact Blk.new wr [.string fname,.int .i64 fnum,.int .i64 fkind,.bool frep,.bool fpack,.int .i64 fof] _
         have hb1:Below wr.heap.size wr W1:=by rw[HW1.out];(with_reducible repeat first|exact Below.refl _ _|refine pzA ?_ _|refine pzB ?_ _|refine zab ?_ _|refine Below.drew ?_)
         have hbd:Below wr.heap.size wr W1.drew:=hb1.drew
         have hsv:zbA fname.data.toList= .string fname:=by unfold zbA;simp
         have hs1:wo.heap.size≤W1.drew.heap.size:=Nat.le_trans HJ.out.2.1.size hb1.size
         have hown1:=HJ.out.1.later hbd
         obtain⟨v8,w8,hr8,hO8,hg8⟩:=zaq.one hown1 fname.data.toList (by rw[HJ.out.2.2.1];omega) hs1
         obtain⟨a8,c8,e8⟩:=hO8.form
         rw[List.length_append,List.length_singleton,HJ.out.2.2.1] at e8
         subst e8
         rw[hsv] at hr8
         have hX8:Blk w8 wr.heap.size [.string fname,.int .i64 fnum,.int .i64 fkind,.bool frep,.bool fpack,.int .i64 fof] 51:=(hg8.block _ hbx.lt (fun e=>by have:=(World.ownsRow.lt HJ.out.1 _ e.symm).2;omega)).trans hbx
         have k0:=And.intro (show W1.drew.cell? ⟨wr.heap.size,0,none⟩=some (.string fname) from hbx.cell 0 _ rfl) (show W1.drew.cell? ⟨wr.heap.size,5,none⟩=some (.int .i64 fof) from hbx.cell 5 _ rfl)
         have k1:=And.intro (show (W1.alloc (.cells #[.string fname] 9)).drew.cell? ⟨wr.heap.size,0,none⟩=some (.string fname) from (hbx.alloc _).cell 0 _ rfl) (show (W1.alloc (.cells #[.string fname] 9)).drew.cell? ⟨wr.heap.size,5,none⟩=some (.int .i64 fof) from (hbx.alloc _).cell 5 _ rfl)
         have k3:=And.intro (hX8.cell 0 _ rfl) (hX8.cell 5 _ rfl)
         have HR8:Hid ((Builtin.append_ #[25,25] 25 #[.slice na q nc,.slice (some ⟨W1.heap.size,0,none⟩) 1 1]).run Tryz.prog (W1.alloc (.cells #[.string fname] 9)).drew= .ok (.slice a8 (q+1) c8) w8):=hr8
         have HREL:Hid (zaq w8 wo.heap.size (.slice a8 (q+1) c8) (ns++[fname.data.toList])∧Below wo.heap.size wo w8∧(ns++[fname.data.toList]).length=q+1∧zaz s root y=(zaz s fof (y.drop (q+1))).map ((ns++[fname.data.toList]) ++ ·)∧(q+1<yn→0≤fof∧fof<s.length)∧∀ t∈ns++[fname.data.toList],t.length≤60):=by
          refine⟨hO8,(HJ.out.2.1.trans (hbd.mono HJ.out.2.1.size)).grown hg8 hs1 (fun e1 e2=>(World.ownsRow.lt HJ.out.1 e1 e2).1),by rw[List.length_append,HJ.out.2.2.1];rfl,HNW.out,fun h=>?_,fun t ht=>?_⟩
          ·
           refine HK17.out ?_
           exact Classical.byContradiction fun h17=>hbad ⟨h,.inr h17⟩
          ·
           rcases List.mem_append.1 ht with ht|ht
           ·
            exact HJ.out.2.2.2.2.2 t ht
           ·
            have e:t=fname.data.toList:=by simpa using ht
            rw[e]
            have:=HN60.out
            rw[Array.length_toList];exact this
         clear hbx hb1 hbd hsv hs1 hown1 hr8 hO8 hg8 hX8
         by_cases hq1:q+1<yn
         ·
          have e1:decide ((q:Int)<(yn:Int) - 1)=true:=decide_eq_true (by omega)
          have hrep:frep=false:=by cases frep;rfl;exact absurd ⟨hq1,.inl rfl⟩ hbad
          have h17:fkind=17:=Classical.byContradiction fun h=>hbad ⟨hq1,.inr h⟩
          subst hrep
          subst h17
          clear hbad
          go_wp2_with fail
          rw[←HW1.out]
          go_region_held3 (fun w'=>w'.cell? ⟨wr.heap.size,0,none⟩=some (.string fname)∧w'.cell? ⟨wr.heap.size,5,none⟩=some (.int .i64 fof)) (first|(with_reducible exact k0)|(with_reducible exact k1)|(with_reducible exact k3)|go_keep) (first|(refine zaQ rfl (.tmp 73) (.tmp 76) _ rfl _ _ rfl rfl HR8.out ?_))
          go_wp2_with fail
          go_roundw
          case rel=>exact⟨fof,q+1,_,rfl,by go_num,hlt2,HREL.out⟩
          case measure=>simp[intOf];omega
         ·
          have e1:decide ((q:Int)<(yn:Int) - 1)=false:=decide_eq_false (by omega)
          have e2:¬ ((q:Int)<(yn:Int) - 1):=by omega
          clear hbad hq1
          go_wp2_with fail
          rw[←HW1.out]
          go_region_held3 (fun w'=>w'.cell? ⟨wr.heap.size,0,none⟩=some (.string fname)∧w'.cell? ⟨wr.heap.size,5,none⟩=some (.int .i64 fof)) (first|(with_reducible exact k0)|(with_reducible exact k1)|(with_reducible exact k3)|go_keep) (first|(refine zaQ rfl (.tmp 73) (.tmp 76) _ rfl _ _ rfl rfl HR8.out ?_))
          go_wp2_with fail
          go_roundw
          case rel=>exact⟨fof,q+1,_,rfl,by go_num,hlt2,HREL.out⟩
          case measure=>simp[intOf];omega
      ·
       obtain rfl:q=yn:=by omega
       have HNS:Hid (zaz s root y=some ns):=by
        rw[Hid,HJ.out.2.2.2.1,List.drop_eq_nil_of_le (by rw[←HYN.out];omega),zaz];simp
       have hst:=zaq.strs HJ.out.1 (by rw[HJ.out.2.2.1];omega) (fun t ht=>by have:=HJ.out.2.2.2.2.2 t ht;omega)
       have hJN:=zoo hst (by have:=zop ns HJ.out.2.2.2.2.2;rw[HJ.out.2.2.1] at this;omega)
       rw[HNS.out] at HPW
       have HJN:=hid hJN
       obtain⟨jb,HJB⟩:∃ jb,Hid (jb=zbU ns):=⟨_,rfl⟩
       rw[←HJB.out] at HJN
       simp only[←HJB.out] at HPW
       obtain⟨jt,HJT⟩:∃ jt,Hid (jt=zbl ns):=⟨_,rfl⟩
       rw[←HJT.out] at HJN
       have HBW:Hid (Below w.heap.size w wr):=HB3.out.trans ((HI.out.2.1.trans (HJ.out.2.1.mono HI.out.2.1.size)).mono HB3.out.size)
       clear hst hJN hlt2
       go_wp2_with fail
       refine HJN.out.mono ?_
       rintro e w7 ⟨rfl,hb7⟩
       have HB7:=hid hb7
       cases jb with
       | false =>
        have HX:Hid (zc5 s root ws=(10,[])):=by rw[Hid,HE2.out,HPW.out];rfl
        clear hb7
        unfold zbA
        simp only[Bool.false_eq_true,if_false]
        go_wp2_with fail
        exact HBAD.out _ 10 (zai HBW.out HB7.out HBW.out.size) HX.out
       | true =>
        have HPW2:Hid (zcA s root ws=(zcA s root (ws.drop (i+1))).map ((ls++[jt]) ++ ·)):=by
         rw[Hid,HPW.out,HJT.out];rfl
        have hbo:Below wo.heap.size wo w7:=zai HJ.out.2.1 hb7 HJ.out.2.1.size
        obtain⟨v8,w8,hr8,hO8,hg8⟩:=zaq.one (HI.out.1.later hbo) jt (by rw[HI.out.2.2.1];omega) (Nat.le_trans HI.out.2.1.size hbo.size)
        have hB8:Below w3.heap.size w3 w8:=(zai HI.out.2.1 hbo HI.out.2.1.size).grown hg8 (Nat.le_trans HI.out.2.1.size hbo.size) (fun e1 e2=>(World.ownsRow.lt (HI.out.1.later hbo) e1 e2).1)
        obtain⟨a8,c8,e8⟩:=hO8.form
        rw[List.length_append,List.length_singleton,HI.out.2.2.1] at e8
        subst e8
        have HREL:Hid (zaq w8 w3.heap.size (.slice a8 (i+1) c8) (ls++[jt])∧Below w3.heap.size w3 w8∧(ls++[jt]).length=i+1∧zcA s root ws=(zcA s root (ws.drop (i+1))).map ((ls++[jt]) ++ ·)):=
         ⟨hO8,hB8,by rw[List.length_append,HI.out.2.2.1];rfl,HPW2.out⟩
        unfold zbA at hr8 ⊢
        simp only[if_true]
        clear hb7 hbo hO8 hg8 hB8
        go_wp2_with (at_builtin;refine zaf rfl _ _ _ rfl _ _ rfl rfl hr8 ?_)
        go_roundw
        case rel=>exact⟨i+1,_,by go_num,hlt,HREL.out⟩
        case measure=>simp[intOf];omega
    ·
     obtain rfl:i=n:=by omega
     have HX:Hid (zc5 s root ws=(0,ls)):=by
      rw[Hid,HE2.out,HI.out.2.2.2,List.drop_eq_nil_of_le (by rw[←HN.out];omega),zcA];simp
     have HFIN:Hid (Q (.returned (.tuple #[.slice oa i oc,.int .u8 0])) wr):=by
      rw[HQ.out,HX.out]
      exact⟨_,rfl,zaq.mono HI.out.1 HB3.out.size,HB3.out.trans (HI.out.2.1.mono HB3.out.size)⟩
     clear hlt
     go_wp2_with fail
     exact HFIN.out
 ·
  have HE:Hid (zc5 s root ws=(ac,[])):=by rw[Hid,zc5,if_pos (by rw[←HAC.out];exact hac),HAC.out]
  have e1:((ac:Int) != 0)=true:=by simp;exact hac
  have e2:((ac:Int) == 0)=false:=by simp;exact hac
  have e3:(ac != 0)=true:=by simp;exact hac
  have e4:(ac == 0)=false:=by simp;exact hac
  have hac0:0<ac:=by omega
  clear hac
  go_enter Tryz.func50,Tryz.ntmps50
  go_wp2_with fail
  rw[←HWB.out]
  refine HAR.out.mono ?_
  rintro e w1 ⟨rfl,hb⟩
  have HB:Hid (Below w.heap.size w w1):=zai HB0.out hb HB0.out.size
  clear hb
  go_wp2_with fail
  exact HBAD.out _ ac HB.out HE.out
end
section
open Go.RowKit
end
section
open Go.RowKit
end
section
open Go.RowKit
end
end Go.Proofs.YtdpnmdkbdibkpaaGreatDoor
