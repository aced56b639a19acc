/- Parts of a proof: texts of the author, merged. No condition of their own. -/
import Derived.Test.YtpckoeicbjfnhaaGreatDoorY07
import Derived.Test.YtpckoeicbjfnhaaGreatDoorY13
import Derived.Test.YtpckoeicbjfnhaaGreatDoorY17
import Derived.Test.YtpckoeicbjfnhaaGreatDoorY18
import Derived.Test.YtpckoeicbjfnhaaGreatDoorY30
import Derived.Test.YtpckoeicbjfnhaaGreatDoorY33
import Derived.Test.YtpckoeicbjfnhaaGreatDoorY38
import Derived.Test.YtpckoeicbjfnhaaGreatDoorY39
namespace Go.Proofs.YtpckoeicbjfnhaaGreatDoor
set_option maxRecDepth 100000
set_option maxHeartbeats 16000000
section
open Go.RowKit
def zbv (s:List Mes)(d m:Nat)(l:List UInt8):List UInt8:=zfE s (d+1) (m:Int) (tof s d m l)
def zbo (s:List Mes)(d:Nat)(f:Fld)(l:List UInt8)(xs:List VW):List UInt8:=
 if 0<many (zay (zdz s d) f l xs) then zhL (zfE s d) f (zay (zdz s d) f l xs) else []
theorem zkz (s:List Mes)(d:Nat)(f:Fld)(l:List UInt8):zbo s d f l []=[]:=by
 unfold zbo
 rw[if_neg]
 have hc:counts f ([]:List VW)=[]:=by unfold counts zbn;split <;> rfl
 unfold many zay
 rw[hc]
 simp
theorem zhl {s:List Mes}(hs:zaw s=true){d m:Nat}{l:List UInt8}(hm:m<s.length) :
  zbv s d m l=((zaq (s.getD m .zero).fields).flatMap fun i=>zbo s d ((s.getD m .zero).fields.getD i.toNat .zero) l (zak (zbA (s.getD m .zero).fields l).1 i))++((zbA (s.getD m .zero).fields l).1.filter fun x=>decide (x.k<0)).flatMap fun x=>zbx l x.r.start x.r.to:=by
 obtain⟨fs,hfs⟩:∃ fs,fs=(s.getD m .zero).fields:=⟨_,rfl⟩
 have hN:zq0 fs:=by rw[hfs];exact zbs hs m hm
 unfold zbv
 rw[zf4]
 show (List.flatMap (fun v=>zhL (zfE s d) ((s.getD (m:Int).toNat .zero).fields.getD (zae (s.getD (m:Int).toNat .zero).fields v.num).toNat .zero) v)
   ((((zaq (s.getD m .zero).fields).map fun i=>zay (zdz s d) ((s.getD m .zero).fields.getD i.toNat .zero) l (zak (zbA (s.getD m .zero).fields l).1 i)).filter fun v=>decide (0<many v))))++List.flatMap id _=_
 rw[Int.toNat_natCast,←hfs]
 congr 1
 ·
  rw[zjd,List.flatMap_assoc]
  refine zhH fun i hi=>?_
  obtain⟨hi0,hil⟩:=zaH hi
  obtain⟨q,rfl⟩:∃ q:Nat,i=q:=⟨i.toNat,by omega⟩
  have hat:zae fs (fs.getD q .zero).number=q:=hN.at (by omega)
  rw[Int.toNat_natCast]
  unfold zbo
  by_cases h:0<many (zay (zdz s d) (fs.getD q .zero) l (zak (zbA fs l).1 (q:Int)))
  ·
   rw[if_pos h,List.filter_cons,decide_eq_true h,if_pos rfl,List.filter_nil,List.flatMap_cons,List.flatMap_nil,List.append_nil]
   show zhL (zfE s d) (fs.getD (zae fs (fs.getD q .zero).number).toNat .zero) _=_
   rw[hat,Int.toNat_natCast]
  ·
   rw[if_neg h,List.filter_cons,decide_eq_false h,if_neg (by decide),List.filter_nil,List.flatMap_nil]
 ·
  show List.flatMap id (((zbA fs l).1.filter fun x=>decide (x.k<0)).map fun x=>zbx l x.r.start x.r.to)=_
  rw[List.flatMap_map];rfl
theorem zmV {α:Type}{xs:List α}(h:xs≠[]):∃ p x,xs=p++[x]∧zbn xs=[x]:=by
 rcases zht xs with ⟨e,-⟩|⟨p,x,e1,e2⟩
 ·
  exact absurd e h
 ·
  exact⟨p,x,e1,e2⟩
theorem zia {R:Int→List UInt8→Prop}{f:Fld}{l:List UInt8}{xs:List VW}(h:zbz R f l xs)(h1:f.rep=false∨zac f.kind=false):∀ x∈xs,x.run=false:=by
 intro x hx
 cases hr:x.run with
 | false=>rfl
 | true =>
  obtain⟨h2,h3⟩:=h.run x hx hr
  rcases h1 with h1|h1
  ·
   rw[h2] at h1;cases h1
  ·
   rw[h3] at h1;cases h1
theorem zrV {k:Int}{ws:List Nat}:(zbR k ws).length=0↔ws=[]:=by
 cases ws with
 | nil=>simp[zbR]
 | cons x r =>
  have:=@zoN k x
  unfold zbR
  rw[List.flatMap_cons,List.length_append]
  exact⟨fun h=>by omega,fun h=>by cases h⟩
theorem zje {s:List Mes}{d:Nat}{f:Fld}{l:List UInt8}{xs:List VW}(hk:zac f.kind=true)(hr:f.rep=true) :
  zbo s d f l xs=if (zbR f.kind (xs.flatMap (zam f l))).length=0 then [] else zcj f.number 2 (zbR f.kind (xs.flatMap (zam f l))):=by
 have h17:f.kind≠17:=by rintro h;rw[h] at hk;cases hk
 have hc:counts f xs=xs:=by unfold counts;rw[if_pos hr]
 have hB:xs.flatMap (zaI f l)=[]:=zew _ _ fun x _=>by unfold zaI;rw[if_pos (.inr hk)]
 have e:zay (zdz s d) f l xs=⟨f.number,xs.flatMap (zam f l),[],[]⟩:=by
  unfold zay;rw[hc,if_neg h17,if_neg h17,hB]
 unfold zbo
 rw[e]
 by_cases h0:xs.flatMap (zam f l)=[]
 ·
  rw[h0,if_neg (by simp[many]),if_pos (by simp[zbR])]
 ·
  rw[if_pos,if_neg (fun h=>h0 (zrV.1 h))]
  ·
   unfold zhL;rw[if_pos hk,if_pos hr]
  ·
   unfold many
   have:0<(xs.flatMap (zam f l)).length:=List.length_pos_iff.2 h0
   simp only;omega
theorem zkA {R:Int→List UInt8→Prop}{s:List Mes}{d:Nat}{f:Fld}{l:List UInt8}{p:List VW}{x:VW}(h:zbz R f l (p++[x]))(hk:zac f.kind=true)(hr:f.rep=false) :
  zbo s d f l (p++[x])=zcj f.number (zas f.kind) (zeQ f.kind (zdd f.kind (zah l x)).1):=by
 have h17:f.kind≠17:=by rintro h;rw[h] at hk;cases hk
 have hc:counts f (p++[x])=[x]:=by rw[ziv,if_neg (by rw[hr];decide)];rfl
 have hx:=zia h (.inl hr) x (by simp)
 have e:zay (zdz s d) f l (p++[x])=⟨f.number,[(zdd f.kind (zah l x)).1],[],[]⟩:=by
  unfold zay
  rw[hc,if_neg h17,if_neg h17]
  simp[zam,zaI,hx,hk]
 unfold zbo
 rw[e,if_pos (by simp[many])]
 unfold zhL
 rw[if_pos hk,if_neg (by rw[hr];decide)]
 rfl
theorem zeH {R:Int→List UInt8→Prop}{f:Fld}{l:List UInt8}{xs:List VW}(h:zbz R f l xs)(hk:zac f.kind=false):(counts f xs).flatMap (zam f l)=[]:=
 zew _ _ fun x hx=>by
  unfold zam
  rw[zia h (.inr hk) x (zcr f xs hx),if_neg (by decide),if_neg (by rw[hk];decide)]
theorem zkB {R:Int→List UInt8→Prop}{s:List Mes}{d:Nat}{f:Fld}{l:List UInt8}{xs:List VW}(h:zbz R f l xs)(h17:f.kind=17)(hr:f.rep=false)(hx:xs≠[])(ho:0≤f.of) :
  zbo s (d+1) f l xs=zcj f.number 2 (zbv s d f.of.toNat (xs.flatMap (zah l))):=by
 have hk:zac f.kind=false:=by rw[h17];rfl
 have e:zay (zdz s (d+1)) f l xs=⟨f.number,[],[],[tof s d f.of.toNat (xs.flatMap (zah l))]⟩:=by
  unfold zay
  rw[zeH h hk,if_pos h17,if_pos h17,if_neg (by rw[hr];decide),if_neg hx];rfl
 unfold zbo
 rw[e,if_pos (by simp[many])]
 unfold zhL
 rw[if_neg (by rw[hk];decide)]
 unfold zbv
 simp only[List.flatMap_nil,List.nil_append,List.flatMap_cons,List.append_nil]
 rw[Int.toNat_of_nonneg ho]
theorem zjf {R:Int→List UInt8→Prop}{s:List Mes}{d:Nat}{f:Fld}{l:List UInt8}{xs:List VW}(h:zbz R f l xs)(h17:f.kind=17)(hr:f.rep=true)(ho:0≤f.of) :
  zbo s (d+1) f l xs=xs.flatMap fun x=>zcj f.number 2 (zbv s d f.of.toNat (zah l x)):=by
 have hk:zac f.kind=false:=by rw[h17];rfl
 have e:zay (zdz s (d+1)) f l xs=⟨f.number,[],[],xs.map fun x=>tof s d f.of.toNat (zah l x)⟩:=by
  unfold zay
  rw[zeH h hk,if_pos h17,if_pos h17,if_pos hr]
  have:(xs.flatMap fun x=>zdz s (d+1) f.of (zah l x))=xs.map fun x=>tof s d f.of.toNat (zah l x):=zjc _ _
  rw[this]
 unfold zbo
 cases xs with
 | nil =>
  rw[e,if_neg (by simp[many])];rfl
 | cons x0 r0 =>
  rw[e,if_pos (by simp[many])]
  unfold zhL
  rw[if_neg (by rw[hk];decide)]
  unfold zbv
  simp only[List.flatMap_nil,List.nil_append]
  rw[List.flatMap_map,Int.toNat_of_nonneg ho]
theorem zhI {R:Int→List UInt8→Prop}{s:List Mes}{d:Nat}{f:Fld}{l:List UInt8}{xs:List VW}(h:zbz R f l xs)(hk:zac f.kind=false)(h17:f.kind≠17)(hr:f.rep=true) :
  zbo s d f l xs=xs.flatMap fun x=>zcj f.number 2 (zah l x):=by
 have hc:counts f xs=xs:=by unfold counts;rw[if_pos hr]
 have hB:xs.flatMap (zaI f l)=xs.map (zah l):=by
  rw[←zjc]
  refine zhH fun x hx=>?_
  unfold zaI
  rw[zia h (.inr hk) x hx,if_neg (by rw[hk];decide)]
 have hW:=zeH h hk
 rw[hc] at hW
 have e:zay (zdz s d) f l xs=⟨f.number,[],xs.map (zah l),[]⟩:=by
  unfold zay;rw[hc,if_neg h17,if_neg h17,hB,hW]
 unfold zbo
 cases xs with
 | nil=>rw[e,if_neg (by simp[many])];rfl
 | cons x0 r0 =>
  rw[e,if_pos (by simp[many])]
  unfold zhL
  rw[if_neg (by rw[hk];decide)]
  simp only[List.flatMap_nil,List.append_nil]
  rw[List.flatMap_map]
theorem zjg {R:Int→List UInt8→Prop}{s:List Mes}{d:Nat}{f:Fld}{l:List UInt8}{p:List VW}{x:VW}(h:zbz R f l (p++[x]))(hk:zac f.kind=false)(h17:f.kind≠17)(hr:f.rep=false) :
  zbo s d f l (p++[x])=zcj f.number 2 (zah l x):=by
 have hc:counts f (p++[x])=[x]:=by rw[ziv,if_neg (by rw[hr];decide)];rfl
 have hW:=zeH h hk
 rw[hc] at hW
 have hx:=zia h (.inl hr) x (by simp)
 have e:zay (zdz s d) f l (p++[x])=⟨f.number,[],[zah l x],[]⟩:=by
  unfold zay
  rw[hc,if_neg h17,if_neg h17,hW]
  simp[zaI,hx,hk]
 unfold zbo
 rw[e,if_pos (by simp[many])]
 unfold zhL
 rw[if_neg (by rw[hk];decide)]
 simp
theorem zcu {n wire:Int}(hn:0≤n∧n≤536870911)(hw:0≤wire∧wire≤7){t:List UInt8}(ht:t.length<2 ^ 64):(zcj n wire t).length≤20+t.length:=by
 unfold zcj
 have h1:=@ze3 (8*n+wire).toNat (by omega)
 have h2:=@ze3 t.length ht
 rw[List.length_append,List.length_append]
 split
 ·
  omega
 ·
  simp;omega
theorem zsO (k:Int):0≤zas k∧zas k≤7:=by
 unfold zas
 repeat' split
 all_goals omega
theorem zeI {x:VW}{xs:List VW}(h:x∈xs):zc9 x≤zbt xs:=by
 unfold zbt
 exact za4 zc9 xs x h
theorem zcX {α:Type}(g:VW→List α):∀ (xs:List VW),(∀ x∈xs,(g x).length≤30*zc9 x)→(xs.flatMap g).length≤30*zbt xs
 | [],_=>by simp
 | x::r,h=>by
  have h1:=h x (by simp)
  have h2:=zcX g r fun y hy=>h y (by simp[hy])
  unfold zbt at h2 ⊢
  rw[List.flatMap_cons,List.length_append,List.map_cons,List.sum_cons]
  omega
theorem zhm {l:List UInt8}:∀ {xs:List VW},(∀ x∈xs,zd5 x)→(xs.flatMap (zah l)).length+xs.length≤zbt xs
 | [],_=>by simp[zbt]
 | x::r,h=>by
  have h1:=h x (by simp)
  have h2:=@zhm l r fun y hy=>h y (by simp[hy])
  have h3:=zbi l x
  unfold zd5 at h1
  unfold zbt at h2 ⊢
  rw[List.flatMap_cons,List.length_append,List.map_cons,List.sum_cons,List.length_cons]
  omega
theorem zcF {s:List Mes}(hs:zaw s=true):∀ (d m:Nat) (l:List UInt8),m<s.length→(zdb s d m l).2=0→l.length≤1099511627776→(zbv s d m l).length≤30*l.length
 | d,m,l,hm,h,hl=>by
  obtain⟨fs,hfs⟩:∃ fs,fs=(s.getD m .zero).fields:=⟨_,rfl⟩
  rw[zhl hs hm,←hfs]
  have hall:=zgy fs l
  have hthin:=zlc fs l
  have hsp:=zg6 (zbA fs l).1 (zaq fs) (by
   refine List.Pairwise.imp (fun {a b} hab=>?_) (zbD fs fs.length).2
   rintro rfl
   exact zck.asymm _ _ hab hab) (fun i hi=>(zaH hi).1)
  have hunk:(((zbA fs l).1.filter fun x=>decide (x.k<0)).flatMap fun x=>zbx l x.r.start x.r.to).length≤30*zbt ((zbA fs l).1.filter fun x=>decide (x.k<0)):=
   zcX _ _ fun x hx=>by
    have:(zbx l x.r.start x.r.to).length≤zc9 x:=by unfold zbx zc9;simp;omega
    omega
  have hfield:∀ i∈zaq fs,(zbo s d (fs.getD i.toNat .zero) l (zak (zbA fs l).1 i)).length≤30*zbt (zak (zbA fs l).1 i):=fun i hi=>by
   obtain⟨hi0,hil⟩:=zaH hi
   obtain⟨q,rfl⟩:∃ q:Nat,i=q:=⟨i.toNat,by omega⟩
   rw[Int.toNat_natCast]
   have hq:q<fs.length:=by omega
   have hR:=zfr hs hm h (q:=q) (by rw[←hfs];exact hq)
   rw[←hfs] at hR
   obtain⟨f,hf⟩:∃ f,f=fs.getD q .zero:=⟨_,rfl⟩
   have hnum:1≤f.number∧f.number≤536870911:=by
    have:=of_decide_eq_true (zcl hs m hm q (by rw[←hfs];exact hq)).2
    rw[hf,hfs];exact⟨this.1,this.2.1⟩
   have hof:=zfs hs hm (q:=q) (by rw[←hfs];exact hq)
   rw[←hfs,←hf] at hof
   rw[←hf] at hR ⊢
   have ht:∀ x∈zak (zbA fs l).1 (q:Int),zd5 x:=fun x hx=>hthin x (zbS hx).1
   have hsum:zbt (zak (zbA fs l).1 (q:Int))≤l.length:=by have:=zex (fun x=>decide (x.k=(q:Int))) (zbA fs l).1;unfold zak;omega
   obtain⟨xs,hxs⟩:∃ xs,xs=zak (zbA fs l).1 (q:Int):=⟨_,rfl⟩
   rw[←hxs] at hR ht hsum ⊢
   by_cases hx:xs=[]
   ·
    rw[hx,zkz];simp
   obtain⟨p,x,hpx,-⟩:=zmV hx
   have hxm:x∈xs:=by rw[hpx];simp
   have hvb:=zhm (l:=l) ht
   have hvx:(zah l x).length≤zbt xs:=by have:=zbi l x;have:=ht x hxm;have:=zeI hxm;unfold zd5 at *;omega
   have hp1:1≤zbt xs:=by have:=zeI hxm;have:=ht x hxm;unfold zd5 at *;omega
   cases hk:zac f.kind with
   | true =>
    cases hr:f.rep with
    | true =>
     rw[zje hk hr]
     have hw:=zf6 (f:=f) (l:=l) ht
     have hc:counts f xs=xs:=by unfold counts;rw[if_pos hr]
     rw[hc] at hw
     have hp:=zeo f.kind (xs.flatMap (zam f l)) fun y hy=>by
      obtain⟨z,-,hz⟩:=List.mem_flatMap.1 hy
      exact zed hz
     split
     ·
      simp
     ·
      have:=zcu (n:=f.number) (wire:=2) ⟨by omega,hnum.2⟩ (by omega) (t:=zbR f.kind (xs.flatMap (zam f l))) (by omega)
      omega
    | false =>
     rw[hpx,zkA (by rw[←hpx];exact hR) hk hr,←hpx]
     have h1:=zg1 f.kind (zh2 f.kind (zah l x))
     have:=zcu (n:=f.number) (wire:=zas f.kind) ⟨by omega,hnum.2⟩ (by have:=zsO f.kind;omega) (t:=zeQ f.kind (zdd f.kind (zah l x)).1) (by omega)
     omega
   | false =>
    by_cases h17:f.kind=17
    ·
     obtain⟨g1,g2⟩:=hR.sub h17
     obtain⟨d',rfl,-⟩:=g1 x hxm
     cases hr:f.rep with
     | true =>
      rw[zjf hR h17 hr hof.1]
      refine zcX _ _ fun y hy=>?_
      obtain⟨d2,e2,hv⟩:=g1 y hy
      obtain rfl:d2=d':=by omega
      have hty:=ht y hy
      have hvy:=zbi l y
      have h1:=zcF hs d2 f.of.toNat (zah l y) (by omega) hv (by have:=zeI hy;unfold zd5 at hty;omega)
      have:=zcu (n:=f.number) (wire:=2) ⟨by omega,hnum.2⟩ (by omega) (t:=zbv s d2 f.of.toNat (zah l y)) (by have:=zeI hy;unfold zd5 at hty;omega)
      unfold zd5 at hty
      omega
     | false =>
      rw[zkB hR h17 hr hx hof.1]
      obtain⟨d2,e2,hv⟩:=g2 hr hx
      obtain rfl:d2=d':=by omega
      have hl1:1≤xs.length:=List.length_pos_iff.2 hx
      have h1:=zcF hs d2 f.of.toNat (xs.flatMap (zah l)) (by omega) hv (by omega)
      have:=zcu (n:=f.number) (wire:=2) ⟨by omega,hnum.2⟩ (by omega) (t:=zbv s d2 f.of.toNat (xs.flatMap (zah l))) (by omega)
      omega
    ·
     cases hr:f.rep with
     | true =>
      rw[zhI hR hk h17 hr]
      refine zcX _ _ fun y hy=>?_
      have hty:=ht y hy
      have hvy:=zbi l y
      have:=zcu (n:=f.number) (wire:=2) ⟨by omega,hnum.2⟩ (by omega) (t:=zah l y) (by have:=zeI hy;unfold zd5 at hty;omega)
      unfold zd5 at hty
      omega
     | false =>
      rw[hpx,zjg (by rw[←hpx];exact hR) hk h17 hr,←hpx]
      have:=zcu (n:=f.number) (wire:=2) ⟨by omega,hnum.2⟩ (by omega) (t:=zah l x) (by omega)
      omega
  have hflat:∀ (L:List Int),(∀ i∈L,(zbo s d (fs.getD i.toNat .zero) l (zak (zbA fs l).1 i)).length≤30*zbt (zak (zbA fs l).1 i)) →
    (L.flatMap fun i=>zbo s d (fs.getD i.toNat .zero) l (zak (zbA fs l).1 i)).length≤30*(L.map fun i=>zbt (zak (zbA fs l).1 i)).sum:=by
   intro L
   induction L with
   | nil=>intro _;simp
   | cons i r ih =>
    intro hL
    have h1:=hL i (by simp)
    have h2:=ih fun j hj=>hL j (by simp[hj])
    rw[List.flatMap_cons,List.length_append,List.map_cons,List.sum_cons]
    omega
  have h1:=hflat _ hfield
  rw[List.length_append]
  omega
 termination_by d=>d
end
section
open Go.RowKit
theorem zjh {α:Type}{S:α→α→Bool}(h:∀ x y,S x y=true→x=y):∀ {a b:List α},zej S a b=true→a=b
 | [],[],_=>rfl
 | [],_::_,h2=>by simp[zej] at h2
 | _::_,[],h2=>by simp[zej] at h2
 | x::r,y::t,h2=>by
  unfold zej at h2
  rw[Bool.and_eq_true] at h2
  rw[h x y h2.1,zjh h h2.2]
theorem zo1:∀ (d:Nat) (x y:M d),zbE d d x y=true→x=y
 | 0,x,_,_=>x.elim
 | d+1,x,y,h=>by
  unfold zbE at h
  rw[Bool.and_eq_true] at h
  have h1:M.unk x=M.unk y:=of_decide_eq_true h.1
  have h2:=zjh (S:=zcm (zbE d d)) (fun u v hs=>by
   unfold zcm at hs
   rw[Bool.and_eq_true] at hs
   obtain⟨e1,e2,e3⟩:u.num=v.num∧u.words=v.words∧u.texts=v.texts:=of_decide_eq_true hs.1
   have e4:=zjh (zo1 d) hs.2
   cases u;cases v
   simp only at e1 e2 e3 e4
   rw[e1,e2,e3,e4]) h.2
  show (⟨M.vals x,M.unk x⟩:zsa (M d))=⟨M.vals y,M.unk y⟩
  rw[h1,h2]
theorem zmW:∀ (d:Nat) (x:M (d+1)),zdE (d+1) x≤d
 | 0,x=>by
  show ((M.vals x).map (zhC (zdE 0))).foldl max 0≤0
  refine zh3 _ _ (Nat.le_refl _) fun n hn=>?_
  obtain⟨v,-,rfl⟩:=List.mem_map.1 hn
  unfold zhC
  cases e:v.subs with
  | nil=>exact Nat.le_refl _
  | cons y r=>exact Empty.elim y
 | d+1,x=>by
  show ((M.vals x).map (zhC (zdE (d+1)))).foldl max 0≤d+1
  refine zh3 _ _ (Nat.zero_le _) fun n hn=>?_
  obtain⟨v,-,rfl⟩:=List.mem_map.1 hn
  unfold zhC
  refine zh3 _ _ (Nat.zero_le _) fun n hn=>?_
  obtain⟨y,-,rfl⟩:=List.mem_map.1 hn
  have:=zmW d y
  omega
theorem zgc {s:List Mes}(hs:zaw s=true){d m:Nat}{l:List UInt8}(hm:m<s.length)(h:(zdb s d m l).2=0)(hl:l.length≤1073741824){w:World}{v:Value}(hv:zat (d+1) w v (tof s d m l)) :
  (zdb s d m (zbv s d m l)).2=0∧tof s d m (zbv s d m l)=tof s d m l:=by
 have hw:=zcs s d m l
 have hr:=zb7 hs d m l hm h
 have hd:=zmW d (tof s d m l)
 exact⟨zsN hs d d m v _ hv (by omega) hm hr hd,zo1 (d+1) _ _ (ztx hs d d m v _ hv (by omega) hm hr hd)⟩
theorem zqd {s:List Mes}(hs:zaw s=true){d m:Nat}{a b:List UInt8}(hm:m<s.length)(ha:(zdb s d m a).2=0)(hb:(zdb s d m b).2=0)(hla:a.length≤1073741824)(hlb:b.length≤1073741824){w w2:World}{v v2:Value}(hv:zat (d+1) w v (tof s d m a))(hv2:zat (d+1) w2 v2 (tof s d m b)) :
  zbv s d m a=zbv s d m b↔tof s d m a=tof s d m b:=by
 constructor
 ·
  intro h
  have h1:=(zgc hs hm ha hla hv).2
  have h2:=(zgc hs hm hb hlb hv2).2
  rw[←h1,←h2,h]
 ·
  intro h
  unfold zbv
  rw[h]
end
section
open Go.RowKit
structure zlD {α:Type}(P:World→List Value→α→Prop)(T:TypeId)(k n0:Nat)(TO:TypeId)(O:Nat)(pre post:List Value)(w3 w:World)(v:Value)(l:List α):Prop where
 below:Below O w3 w
 blk:Blk w O (pre++v::post) TO
 rows:zaf P T k n0 (O+1) w v l
variable {α:Type} {P:World→List Value→α→Prop} {T:TypeId} {k n0:Nat} {TO:TypeId} {O:Nat} {pre post:List Value} {w3 w w1:World} {v:Value} {l:List α}
theorem zlD.start (hb:Blk w O (pre ++ .slice none 0 0::post) TO):zlD P T k n0 TO O pre post w w (.slice none 0 0) []:=
 ⟨Below.refl _ _,hb,zaf.nil _ _ _ _ _ _⟩
theorem zlD.lt (h:zlD P T k n0 TO O pre post w3 w v l):O<w.heap.size:=h.blk.lt
theorem zlD.cell (h:zlD P T k n0 TO O pre post w3 w v l)(j:Nat)(u:Value)(hu:(pre++v::post)[j]?=some u):w.cell? ⟨O,j,none⟩=some u:=h.blk.cell j u hu
theorem zlD.later (h:zlD P T k n0 TO O pre post w3 w v l)(hb:Below w.heap.size w w1):zlD P T k n0 TO O pre post w3 w1 v l:=
 ⟨h.below.trans (hb.mono (Nat.le_of_lt h.lt)),h.blk.below hb,h.rows.below hb⟩
theorem zlD.step {i:Nat}{oa:Option Addr}{oc:Nat}(h:zlD P T k n0 TO O pre post w3 w (.slice oa i oc) l)(hb:Below w.heap.size w w1)(hk:0<k)(hn0:n0≤O)(hil:l.length=i)
  {G:Program} (t:TypeId) (z:Value) (bytes:Nat) (ht:G.underlying t=some (.slice T)) (hinfo:(G.info? T).map (fun i=>(i.zero,i.size,i.bytes))=some (some z,k,bytes)) (hzs:z.cells.size=k)
  (cells:Array Value) (hr:cells.size=k) (h1:∀ u∈cells.toList,u.oneCell'=true) (x:α) (hP:zc8 n0 w.heap.size w1 fun w'=>P w' cells.toList x) (hlen:i≤1099511627776) (hby:bytes≤120) (j:Nat) (hj:j=pre.length) :
  ∃ a' c' w5,(Builtin.append_ #[t,t] t #[.slice oa i oc,.slice (some ⟨w1.heap.size,0,none⟩) 1 1]).run G (w1.alloc (.cells cells T))= .ok (.slice a' (i+1) c') w5 ∧
   Below (O+1) w (w1.alloc (.cells cells T))∧Below (O+1) w w5 ∧
   (w5.cell? ⟨O,j,none⟩=some (.slice oa i oc)∧w5.frozen? ⟨O,j,none⟩=false∧O<w5.heap.size∧∀ b,b<(w1.alloc (.cells cells T)).heap.size→(b<O+1∨w.heap.size≤b)→w5.heap[b]?=(w1.alloc (.cells cells T)).heap[b]?) ∧
   zlD P T k n0 TO O pre post w3 (w5.setCell ⟨O,j,none⟩ (.slice a' (i+1) c')) (.slice a' (i+1) c') (l++[x]):=by
 subst hj
 have hs:=hb.size
 have hlt:=h.lt
 have hB1:Below (O+1) w (w1.alloc (.cells cells T)):=(hb.mono hlt).alloc (by omega) _
 obtain⟨v',w5,hrun,hR,hg,-⟩:=(h.rows.below hb).append hk (by omega) t z bytes ht hinfo hzs cells hr h1 x w.heap.size (fun b e=>(h.rows.own b e).2) hlt hP (by omega) hby (by omega)
 obtain⟨a',c',rfl⟩:=hR.form
 rw[List.length_append,List.length_singleton,hil] at *
 have hB5:Below (O+1) w w5:=hB1.grown hg (by have:=hB1.size;omega) fun q e=>(h.rows.own q e).1
 have hkp:∀ b,b<(w1.alloc (.cells cells T)).heap.size→(b<O+1∨w.heap.size≤b)→w5.heap[b]?=(w1.alloc (.cells cells T)).heap[b]?:=fun b hb' hc=>hg.block b hb' fun e=>by
  have h1:=h.rows.own b e.symm
  omega
 have hO5:Blk w5 O (pre ++ .slice oa i oc::post) TO:=(hB5.block O (by omega)).trans h.blk
 refine⟨a',c',w5,hrun,hB1,hB5,⟨hO5.cell _ _ (by simp),hO5.free _,hO5.lt,hkp⟩,(h.below.trans (hB5.mono (by omega))).setCell (Nat.le_refl _) _,?_,?_⟩
 ·
  have:=hO5.set pre.length (.slice a' (i+1) c')
  rwa [List.set_append_right _ _ (Nat.le_refl _),Nat.sub_self,List.set_cons_zero] at this
 ·
  refine hR.later (fun b' _ hc=>Below.heap_setCell w5 _ _ b' ?_) (by simp)
  show b'≠O
  omega
theorem zlD.at (h:zlD P T k n0 TO O pre post w3 w v l)(hl:l.length≤140737488355328){w':World}(hw:∀ b,b<w.heap.size→(b<n0∨O+1≤b)→w'.heap[b]?=w.heap[b]?):zcL P k w' v l:=h.rows.at hl hw
end
section
open Go.RowKit
structure But (b:Nat)(w w':World):Prop where
 os:w'.os=w.os
 tape:w'.tape=w.tape
 output:w'.output=w.output
 size:w.heap.size≤w'.heap.size
 block:∀ c,c<w.heap.size→c≠b→w'.heap[c]?=w.heap[c]?
theorem But.refl (b:Nat)(w:World):But b w w:=⟨rfl,rfl,rfl,Nat.le_refl _,fun _ _ _=>rfl⟩
theorem But.trans {b:Nat}{w w1 w2:World}(h:But b w w1)(g:But b w1 w2):But b w w2:=
 ⟨g.os.trans h.os,g.tape.trans h.tape,g.output.trans h.output,Nat.le_trans h.size g.size,fun c hc hn=>(g.block c (Nat.lt_of_lt_of_le hc h.size) hn).trans (h.block c hc hn)⟩
theorem But.to_below {b n:Nat}{w w':World}(h:But b w w')(hb:n≤b)(hn:n≤w.heap.size):Below n w w':=⟨h.os,h.tape,h.output,h.size,fun c hc=>h.block c (by omega) (by omega)⟩
theorem But.cell {b:Nat}{w w':World}(h:But b w w'){p:Addr}{u:Value}(hp:p.block≠b)(hu:w.cell? p=some u):w'.cell? p=some u:=by
 rw[World.cell?_of_block (h.block p.block (World.block_lt_of_cell? w _ hu) hp)];exact hu
theorem But.set {w:World}{b:Nat}{cs:List Value}{T:TypeId}(_h:Blk w b cs T)(j:Nat)(v:Value):But b w (w.setCell ⟨b,j,none⟩ v):=
 ⟨rfl,rfl,rfl,by show w.heap.size≤(w.heap.modify b _).size;rw[Array.size_modify];exact Nat.le_refl _,fun c _ hn=>Below.heap_setCell w ⟨b,j,none⟩ v c hn⟩
end
section
open Go.RowKit
variable {P:Program} {ops:Array Oper} {md:Region.Mode} {w:World} {V X:World→Prop} {g:Nat} {Q:Exit→Act→World→Prop}
def zff (ops:Array Oper)(k d:Nat):Bool:=match (ops[k]?).bind (·.guard) with
 | some (j,_)=>decide ((ops[j]?).bind (·.dst)=some d)
 | none=>false
def zfg (o:Oper):Bool:=match o.guard with
 | some (_,b)=>b
 | none=>true
theorem zgd {k d:Nat}{o:Oper}{a:Act}{b:Bool}(hk:ops[k]?=some o)(h:zff ops k d=true)(ht:a.tmps[d]?=some (.bool b)):Region.wanted o (yielded ops a.tmps)=decide (b=zfg o):=by
 unfold zff at h
 rw[hk] at h
 simp only[Option.bind_some] at h
 cases hg:o.guard with
 | none=>rw[hg] at h;cases h
 | some p =>
  obtain⟨j,c⟩:=p
  rw[hg] at h
  have h2:(ops[j]?).bind (·.dst)=some d:=of_decide_eq_true h
  have hy:yielded ops a.tmps j=some b:=by
   unfold yielded
   rw[h2]
   simp only[Option.bind_some,ht]
  unfold Region.wanted zfg
  rw[hg]
  simp only[hy]
  cases b <;> cases c <;> rfl
def zrW (md:Region.Mode)(ops:Array Oper)(g:Nat):List (Nat × Nat × Nat)→Array Bool→Bool
 | [],listed=>(Region.ready md ops listed).isEmpty
 | (k,t,d)::ts,listed=>(match t with
   | 0=>Region.free md ops listed k&&(Region.ready md ops listed).contains k && !(k == g)&&((ops[k]?).map fun o=>o.guard.isNone).getD false
   | 1=>Region.free md ops listed k&&(Region.ready md ops listed).contains k && !(k == g)&&((ops[k]?).map fun o=>o.guard.isNone).getD false&&zkf md ops 60 k g
   | 4=>Region.free md ops listed k&&(Region.ready md ops listed).contains k && !(k == g)&&zff ops k d
   | 5=>Region.free md ops listed k&&(Region.ready md ops listed).contains k && !(k == g)&&zff ops k d
   | 6=>decide (Region.ready md ops listed=[k])&&(listed.setIfInBounds k true).getD g false&&zff ops k d
   | _=>decide (Region.ready md ops listed=[k])&&(listed.setIfInBounds k true).getD g false)&&zrW md ops g ts (listed.setIfInBounds k true)
def zo2 (P:Program)(ops:Array Oper)(Q:Exit→Act→World→Prop)(V X:World→Prop):List (Nat × Nat)→List Oper→Act→World→Prop
 | (0,_)::ts,o::os,a,w=>∃ v,(∀ w,V w→(execOp a.eval o).run P w= .ok (.value v) w)∧zo2 P ops Q V X ts os (a.put o.dst v) w
 | (1,_)::ts,o::os,a,w=>∃ v,(∀ w,X w→(execOp a.eval o).run P w= .ok (.value v) w)∧zo2 P ops Q V X ts os (a.put o.dst v) w
 | (4,d)::ts,o::os,a,w=>a.tmps[d]?=some (.bool (zfg o))∧∃ v,(∀ w,V w→(execOp a.eval o).run P w= .ok (.value v) w)∧zo2 P ops Q V X ts os (a.put o.dst v) w
 | (5,d)::ts,o::os,a,w=>a.tmps[d]?=some (.bool (!zfg o))∧zo2 P ops Q V X ts os (a.put o.dst undef) w
 | (6,d)::ts,o::os,a,w=>a.tmps[d]?=some (.bool (zfg o))∧∀ K:Exit→Act→World→Prop,Hid (∀ a' w',V w'→(V w'→zo2 P ops Q V X ts os a' w')→K .normal a' w')→wpList P ops K [{ o with guard:=none }] a w
 | _::ts,o::os,a,w=>∀ K:Exit→Act→World→Prop,Hid (∀ a' w',V w'→(V w'→zo2 P ops Q V X ts os a' w')→K .normal a' w')→wpList P ops K [o] a w
 | _,_,a,w=>Q .normal a w
theorem zty {o:Oper}{K:Exit→Act→World→Prop}{a:Act}{w:World}(h:wpList P ops K [{ o with guard:=none }] a w)(hw:Region.wanted o (yielded ops a.tmps)=true):wpList P ops K [o] a w:=by
 unfold wpList at h ⊢
 rw[if_pos hw]
 rw[if_pos (by rfl)] at h
 exact h
theorem zn3 {k:Nat}{o:Oper}{fuel:Nat}{listed:Array Bool}{a:Act}{w:World}{T:Act→World→Prop}(hr:Region.ready md ops listed=[k])(hk:ops[k]?=some o)
  (hg:(listed.setIfInBounds k true).getD g false=true) (h:∀ K:Exit→Act→World→Prop,Hid (∀ a' w',V w'→(V w'→T a' w')→K .normal a' w')→wpList P ops K [o] a w)
  (hT:∀ a' w',V w'→T a' w'→zbV P md ops Q V X g fuel (listed.setIfInBounds k true) a' w'):zbV P md ops Q V X g (fuel+1) listed a w:=
 zhb hr hk hg fun K HK=>h K (hid fun a' w' hV hK=>HK.out a' w' hV fun hV''=>hT a' w' hV'' (hK hV''))
theorem zmX (hsel:Region.noSelect ops=true)(hQ:∀ c (a:Act) dst v w,Q (.panic c) (a.put dst v) w→Q (.panic c) a w)(ts:List (Nat × Nat × Nat)):∀ (os:List Oper) (listed:Array Bool) (a:Act) (w:World),
  os.map some=ts.map (fun t=>ops[t.1]?)→zb5 md ops listed→zrW md ops g ts listed=true→V w→(listed.getD g false=false→X w)→zo2 P ops Q V X (ts.map (·.2)) os a w →
  zbV P md ops Q V X g ts.length listed a w:=by
 induction ts with
 | nil =>
  intro os listed a w hl _ hB _ _ h
  cases os with
  | nil=>exact⟨by simpa [zrW] using hB,h⟩
  | cons o os=>simp at hl
 | cons t ts ih =>
  intro os listed a w hl hc hB hV hX h
  cases os with
  | nil=>simp at hl
  | cons o os =>
   rw[List.map_cons,List.map_cons] at hl
   obtain⟨hi0,hl'⟩:=List.cons.inj hl
   clear hl
   obtain⟨k,tag,d⟩:=t
   have hi:ops[k]?=some o:=hi0.symm
   clear hi0
   rw[List.length_cons]
   rw[List.map_cons] at h
   unfold zrW at hB
   obtain⟨hB1,hB2⟩:=(Bool.and_eq_true _ _).mp hB
   clear hB
   have quiet:∀ v,Region.free md ops listed k=true→(Region.ready md ops listed).contains k=true→k≠g→YieldsIf P ops V o v a→zo2 P ops Q V X (ts.map (·.2)) os (a.put o.dst v) w→zbV P md ops Q V X g (ts.length+1) listed a w:=fun v h3 h4 h5 hy h=>by
    have h4':k∈Region.ready md ops listed:=List.contains_iff_mem.1 h4
    refine zbW hi (Region.noSelect_spec hsel) (fun c a w h=>hQ c _ _ _ w h) h5 V (fun _ _ _ _ hA=>hA.1) ts.length listed a w hc (Region.free_spec hi h3) h4' hy ⟨hV,hX⟩ ?_
    exact ih os _ _ w hl' (hc.set h4') hB2 hV (fun h0=>hX (by rw[getD_set_ne false h5] at h0;exact h0)) h
   have alone:Region.ready md ops listed=[k]→(listed.setIfInBounds k true).getD g false=true→(∀ K:Exit→Act→World→Prop,Hid (∀ a' w',V w'→(V w'→zo2 P ops Q V X (ts.map (·.2)) os a' w')→K .normal a' w')→wpList P ops K [o] a w)→zbV P md ops Q V X g (ts.length+1) listed a w:=fun h3 h4 h=>by
    have h4':k∈Region.ready md ops listed:=by rw[h3];exact List.mem_singleton.2 rfl
    exact zn3 h3 hi h4 h fun a' w' hV' hT=>ih os _ a' w' hl' (hc.set h4') hB2 hV' (fun h0=>by rw[h4] at h0;cases h0) hT
   match tag,hB1,h with
   | 0,hB1,h =>
    obtain⟨v,hy,h⟩:=h
    simp only[Bool.and_eq_true,Bool.not_eq_true',beq_eq_false_iff_ne] at hB1
    obtain⟨⟨⟨h3,h4⟩,h5⟩,h6⟩:=hB1
    rw[hi] at h6
    exact quiet v h3 h4 h5 (Or.inl ⟨zbX h6,hy⟩) h
   | 1,hB1,h =>
    obtain⟨v,hy,h⟩:=h
    simp only[Bool.and_eq_true,Bool.not_eq_true',beq_eq_false_iff_ne] at hB1
    obtain⟨⟨⟨⟨h3,h4⟩,h5⟩,h6⟩,h8⟩:=hB1
    have h4':k∈Region.ready md ops listed:=List.contains_iff_mem.1 h4
    rw[hi] at h6
    refine zbW hi (Region.noSelect_spec hsel) (fun c a w h=>hQ c _ _ _ w h) h5 X (fun _ _ hc hl hA=>hA.2 (zfw hc 60 k g h8 hl).2) ts.length listed a w hc (Region.free_spec hi h3) h4' (Or.inl ⟨zbX h6,hy⟩) ⟨hV,hX⟩ ?_
    exact ih os _ _ w hl' (hc.set h4') hB2 hV (fun h0=>hX (by rw[getD_set_ne false h5] at h0;exact h0)) h
   | 4,hB1,h =>
    obtain⟨ht,v,hy,h⟩:=h
    simp only[Bool.and_eq_true,Bool.not_eq_true',beq_eq_false_iff_ne] at hB1
    obtain⟨⟨⟨h3,h4⟩,h5⟩,h6⟩:=hB1
    exact quiet v h3 h4 h5 (Or.inl ⟨by rw[zgd hi h6 ht];simp,hy⟩) h
   | 5,hB1,h =>
    obtain⟨ht,h⟩:=h
    simp only[Bool.and_eq_true,Bool.not_eq_true',beq_eq_false_iff_ne] at hB1
    obtain⟨⟨⟨h3,h4⟩,h5⟩,h6⟩:=hB1
    exact quiet undef h3 h4 h5 (Or.inr ⟨by rw[zgd hi h6 ht];simp,rfl⟩) h
   | 6,hB1,h =>
    obtain⟨ht,h⟩:=h
    simp only[Bool.and_eq_true,decide_eq_true_eq] at hB1
    obtain⟨⟨h3,h4⟩,h6⟩:=hB1
    exact alone h3 h4 fun K HK=>zty (h K HK) (by rw[zgd hi h6 ht];simp)
   | 2,hB1,h =>
    simp only[Bool.and_eq_true,decide_eq_true_eq] at hB1
    exact alone hB1.1 hB1.2 h
   | 3,hB1,h =>
    simp only[Bool.and_eq_true,decide_eq_true_eq] at hB1
    exact alone hB1.1 hB1.2 h
   | n+7,hB1,h =>
    simp only[Bool.and_eq_true,decide_eq_true_eq] at hB1
    exact alone hB1.1 hB1.2 h
theorem ztg {l:List Oper}:∀ ts:List (Nat × Nat × Nat),(ts.all fun t=>decide (t.1<l.length))=true→(ts.filterMap fun t=>l[t.1]?).map some=ts.map fun t=>l.toArray[t.1]?
 | [],_=>rfl
 | t::ts,h=>by
  rw[List.all_cons,Bool.and_eq_true] at h
  have h1:t.1<l.length:=of_decide_eq_true h.1
  have h2:l[t.1]?=some (l[t.1]'h1):=List.getElem?_eq_getElem h1
  rw[List.filterMap_cons,h2]
  simp only[List.map_cons]
  rw[ztg ts h.2,List.getElem?_toArray,h2]
theorem seqH2 {d:Nat}{ts:List (Nat × Nat)}{o:Oper}{os:List Oper}{a:Act}{w:World}(h:∀ K:Exit→Act→World→Prop,Hid (∀ a' w',V w'→(V w'→zo2 P ops Q V X ts os a' w')→K .normal a' w')→wpList P ops K [o] a w):zo2 P ops Q V X ((2,d)::ts) (o::os) a w:=h
theorem zsP {a:Act}{w:World}(h:Q .normal a w):zo2 P ops Q V X [] [] a w:=h
end
end Go.Proofs.YtpckoeicbjfnhaaGreatDoor
