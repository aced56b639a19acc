/- Parts of a proof: texts of the author, merged. No condition of their own. -/
import Derived.Test.YtpckoeicbjfnhaaGreatDoorZ07
import Derived.Test.YtpckoeicbjfnhaaGreatDoorZ09
import Derived.Test.YtpckoeicbjfnhaaGreatDoorZ11
import Derived.Test.YtpckoeicbjfnhaaGreatDoorZ16
namespace Go.Proofs.YtpckoeicbjfnhaaGreatDoor
set_option maxRecDepth 100000
set_option maxHeartbeats 16000000
section
open Go.RowKit
theorem ziZ (fs:List Fld)(l:List UInt8):∀ (n i:Nat),(zaU fs l n i).1.length+i≤max l.length i
 | 0,i=>by simp[zaU];omega
 | n+1,i=>by
  rw[zaU]
  by_cases hi:l.length≤i
  ·
   rw[if_pos hi];simp;omega
  rw[if_neg hi]
  by_cases hc:(zaw fs l i).2.2.2=0
  ·
   rw[if_neg (by omega)]
   have hto:=zeR _ _ _ hc
   have ih:=ziZ fs l n (zaw fs l i).1.to
   simp only
   split
   ·
    simp;omega
   ·
    simp;omega
  ·
   rw[if_pos hc];simp;omega
theorem zqL (fs:List Fld)(l:List UInt8):(zfm fs l).1.length≤l.length:=by
 have:=ziZ fs l l.length 0
 unfold zfm
 omega
theorem zi0 {α:Type}(l:List α){x:α}(h:x∈zbI l):x∈l:=List.mem_of_mem_drop h
theorem zkO {α:Type}(l:List α):(l=[]∧zbI l=[])∨∃ p x,l=p++[x]∧zbI l=[x]:=by
 rcases List.eq_nil_or_concat l with h|⟨p,x,h⟩
 ·
  subst h;exact .inl ⟨rfl,rfl⟩
 ·
  rw[List.concat_eq_append] at h
  subst h
  exact .inr ⟨p,x,rfl,zhB p x⟩
theorem zhC {α β:Type}(g:α→List β)(l:List α)(h:(∀ x∈l,(g x).length=1)∨(∀ x∈l,g x=[])):zbI (l.flatMap g)=(zbI l).flatMap g:=by
 rcases zkO l with ⟨rfl,h2⟩|⟨p,x,rfl,h2⟩
 ·
  rfl
 ·
  rw[h2,List.flatMap_append]
  rcases h with h|h
  ·
   have h1:=h x (by simp)
   obtain⟨y,hy⟩:∃ y,g x=[y]:=List.length_eq_one_iff.1 h1
   simp only[List.flatMap_cons,List.flatMap_nil,List.append_nil,hy]
   exact zhB _ _
  ·
   have h1:(p.flatMap g)=[]:=by
    rw[List.flatMap_eq_nil_iff]
    intro y hy
    exact h y (by simp[hy])
   rw[h1]
   simp[h x (by simp),zbI]
end
section
open Go.RowKit
theorem zpc (r:List UInt8):∀ (l:List UInt8) (n w:Nat),(vgo n w l).2.2=0→vgo n w (l++r)=vgo n w l
 | [],n,w,h=>by simp[vgo] at h
 | c::t,n,w,h=>by
  rw[List.cons_append]
  rw[vgo] at h ⊢
  conv=>rhs;rw[vgo]
  by_cases h1:n=9∧1<c.toNat
  ·
   rw[if_pos h1] at h;simp at h
  rw[if_neg h1] at h ⊢
  rw[if_neg h1]
  by_cases h2:c.toNat<128
  ·
   rw[if_pos h2,if_pos h2]
  rw[if_neg h2] at h ⊢
  rw[if_neg h2]
  exact zpc r t _ _ h
theorem zhD {l:List UInt8}(r:List UInt8)(h:(zaG l).2.2=0):zaG (l++r)=zaG l:=zpc r l 0 0 h
theorem zpd {l:List UInt8}(r:List UInt8)(h:(zbF l).2.2.2=0):zbF (l++r)=zbF l:=by
 have h1:(zaG l).2.2=0:=by
  refine Decidable.byContradiction fun hn=>?_
  unfold zbF at h
  rw[if_pos hn] at h
  exact hn h
 unfold zbF
 rw[zhD r h1]
theorem zpe (wire:Nat){l:List UInt8}(r:List UInt8)(h:(zcg wire l).2.2=0):zcg wire (l++r)=zcg wire l:=by
 unfold zcg at h ⊢
 by_cases h0:wire=0
 ·
  rw[if_pos h0] at h ⊢
  rw[if_pos h0,zhD r h]
 rw[if_neg h0] at h ⊢
 rw[if_neg h0]
 by_cases h1:wire=1
 ·
  rw[if_pos h1,if_pos h1]
 rw[if_neg h1] at h ⊢
 rw[if_neg h1]
 by_cases h5:wire=5
 ·
  rw[if_pos h5,if_pos h5]
 rw[if_neg h5] at h ⊢
 rw[if_neg h5,zhD r h]
theorem zpf {l:List UInt8}(r:List UInt8){i:Nat}(h:(zaE l i).2=0):zaE (l++r) i=zaE l i:=by
 rcases zb5 l i with ⟨hi,er⟩|⟨hi,c,et,hc,er⟩|⟨hi,k,x,n,et,h1,h2,h3,h4,h5,h6,hcs⟩
 ·
  rw[er] at h;simp at h
 ·
  rw[er] at h;simp at h;omega
 ·
  rcases hcs with ⟨a,m,c,es,hc,-,-,er⟩|⟨a,m,es,-,-,-,-,er⟩|⟨a,m,es,g1,g2,g3,er⟩
  ·
   rw[er] at h;simp at h;omega
  ·
   rw[er] at h;simp at h
  ·
   rw[er]
   unfold zaE
   rw[if_neg (by rw[List.length_append];omega)]
   have e1:(l++r).drop i=l.drop i++r:=List.drop_append_of_le_length (by omega)
   have e2:(l++r).drop (i+n)=l.drop (i+n)++r:=List.drop_append_of_le_length (by omega)
   rw[e1,zpd r (by rw[et]),et]
   simp only
   rw[if_neg (by simp),e2,zpe x r (by rw[es]),es]
   simp only
   rw[if_neg (by simp),if_neg (by rw[List.length_append];omega)]
theorem zpg (fs:List Fld){l:List UInt8}(r:List UInt8){i:Nat}(h:(zaw fs l i).2.2.2=0):zaw fs (l++r) i=zaw fs l i:=by
 have h1:=(zjN h).2.2.2.1
 unfold zaw
 rw[zpf r h1]
def Rec.shift (n:Nat)(x:Rec):Rec:=⟨x.number,x.wire,n+x.start,n+x.at',n+x.to⟩
theorem zlV (p l:List UInt8)(i:Nat):zaE (p++l) (p.length+i)=(if (zaE l i).2=0 then (Rec.shift p.length (zaE l i).1,0) else (zaE l i)):=by
 have e1:(p++l).drop (p.length+i)=l.drop i:=by rw[List.drop_append];simp
 rcases zb5 l i with ⟨hi,er⟩|⟨hi,c,et,hc,er⟩|⟨hi,k,x,n,et,h1,h2,h3,h4,h5,h6,hcs⟩
 ·
  rw[er,if_neg (by simp)]
  unfold zaE
  rw[if_pos (by rw[List.length_append];omega)]
 ·
  rw[er,if_neg (by simp;omega)]
  unfold zaE
  rw[if_neg (by rw[List.length_append];omega),e1,et]
  simp only
  rw[if_pos (by omega)]
 ·
  have e2:(p++l).drop (p.length+i+n)=l.drop (i+n):=by rw[Nat.add_assoc,List.drop_append];simp
  rcases hcs with ⟨a,m,c,es,hc,-,-,er⟩|⟨a,m,es,g1,g2,g3,g4,er⟩|⟨a,m,es,g1,g2,g3,er⟩
  ·
   rw[er,if_neg (by simp;omega)]
   unfold zaE
   rw[if_neg (by rw[List.length_append];omega),e1,et]
   simp only
   rw[if_neg (by simp),e2,es]
   simp only
   rw[if_pos (by omega)]
  ·
   rw[er,if_neg (by simp)]
   unfold zaE
   rw[if_neg (by rw[List.length_append];omega),e1,et]
   simp only
   rw[if_neg (by simp),e2,es]
   simp only
   rw[if_neg (by simp),if_pos (by rw[List.length_append];omega)]
  ·
   rw[er,if_pos rfl]
   unfold zaE
   rw[if_neg (by rw[List.length_append];omega),e1,et]
   simp only
   rw[if_neg (by simp),e2,es]
   simp only
   rw[if_neg (by simp),if_neg (by rw[List.length_append];omega)]
   unfold Rec.shift
   simp only[Nat.add_assoc]
theorem zqM {l:List UInt8}(r:List UInt8){i j:Nat}(h:j≤l.length)(hij:i≤j):zct (l++r) i j=zct l i j:=by
 unfold zct
 rw[List.drop_append_of_le_length (by omega),List.take_append_of_le_length (by rw[List.length_drop];omega)]
theorem znF (p l:List UInt8)(i j:Nat):zct (p++l) (p.length+i) (p.length+j)=zct l i j:=by
 unfold zct
 have e1:(p++l).drop (p.length+i)=l.drop i:=by rw[List.drop_append];simp
 rw[e1,Nat.add_sub_add_left]
theorem zlW (fs:List Fld)(p l:List UInt8){i:Nat}(h:(zaw fs l i).2.2.2=0) :
  zaw fs (p++l) (p.length+i)=(Rec.shift p.length (zaw fs l i).1,(zaw fs l i).2.1,(zaw fs l i).2.2.1,0):=by
 have h1:=(zjN h).2.2.2.1
 have hs:=zlV p l i
 rw[if_pos h1] at hs
 obtain⟨r,er⟩:∃ r,zaE l i=(r,0):=⟨(zaE l i).1,by rw[←h1]⟩
 rw[er] at hs
 obtain⟨r1,r2,r3,r4,r5⟩:=r
 have h2:∀ (L:List UInt8) (j:Nat) (q:Rec),zaE L j=(q,0)→zaw fs L j=if zah fs q.number<0 then (q,-1,false,0) else
   if ((fs.getD (zah fs q.number).toNat .zero).rep&&zai (fs.getD (zah fs q.number).toNat .zero).kind&&decide (q.wire=2))=true then (q,zah fs q.number,true,0) else
   if zaA (fs.getD (zah fs q.number).toNat .zero).kind=false∨zaH (fs.getD (zah fs q.number).toNat .zero).kind≠q.wire then (.none,0,false,6) else (q,zah fs q.number,false,0):=by
  intro L j q hq
  unfold zaw
  rw[hq]
  rfl
 rw[h2 _ _ _ er] at h ⊢
 rw[h2 _ _ _ hs]
 unfold Rec.shift
 simp only at h ⊢
 by_cases g1:zah fs r1<0
 ·
  rw[if_pos g1,if_pos g1]
 rw[if_neg g1] at h ⊢
 rw[if_neg g1]
 by_cases g2:((fs.getD (zah fs r1).toNat .zero).rep&&zai (fs.getD (zah fs r1).toNat .zero).kind&&decide (r2=2))=true
 ·
  rw[if_pos g2,if_pos g2]
 rw[if_neg g2] at h ⊢
 rw[if_neg g2]
 by_cases g3:zaA (fs.getD (zah fs r1).toNat .zero).kind=false∨zaH (fs.getD (zah fs r1).toNat .zero).kind≠r2
 ·
  rw[if_pos g3] at h;simp at h
 ·
  rw[if_neg g3,if_neg g3]
theorem zph {fs:List Fld}{l:List UInt8}{i:Nat}(h:(zaw fs l i).2.2.2=0):(zaw fs l i).1.at'≤(zaw fs l i).1.to∧(zaw fs l i).1.to≤l.length:=by
 rcases zcz fs l i with ⟨c,hc,e,-⟩|⟨r,h1,h2,h3,h4,-,e|⟨k,run,-,e,-⟩⟩
 ·
  rw[e] at h;exact absurd h hc
 ·
  rw[e];exact⟨h3,h4⟩
 ·
  rw[e];exact⟨h3,h4⟩
theorem zkP {rec:Nat→List UInt8→Nat × Nat}{deep:Bool}{fs:List Fld}{l l':List UInt8}{v v':Rec × Int × Bool × Nat}(hk:v'.2.1=v.2.1)(hr:v'.2.2.1=v.2.2.1)(hp:zct l' v'.1.at' v'.1.to=zct l v.1.at' v.1.to) :
  (zjE rec deep fs l' v').2=(zjE rec deep fs l v).2:=by
 unfold zjE
 rw[hk,hr,hp]
 simp only
 repeat' split
 all_goals rfl
theorem zez (s:List Mes)(d m:Nat)(p l:List UInt8):∀ (n i:Nat),l.length≤n+i→(zge s d m l i).2=0→(zge s d m (p++l) (p.length+i)).2=0
 | 0,i,hn,_=>by rw[zdX,if_pos (by rw[List.length_append];omega)]
 | n+1,i,hn,h=>by
  rw[zdX] at h ⊢
  by_cases hi:l.length≤i
  ·
   rw[if_pos (by rw[List.length_append];omega)]
  rw[if_neg hi] at h
  rw[if_neg (by rw[List.length_append];omega)]
  by_cases hc:(zaw (s.getD m .zero).fields l i).2.2.2=0
  ·
   rw[if_neg (by omega)] at h
   rw[zlW _ p l hc]
   rw[if_neg (by simp)]
   have hv:=zkP (rec:=zlx s d) (deep:=decide (d=0)) (fs:=(s.getD m .zero).fields) (l:=l) (l':=p++l) (v:=zaw (s.getD m .zero).fields l i) (v':=(Rec.shift p.length (zaw (s.getD m .zero).fields l i).1,(zaw (s.getD m .zero).fields l i).2.1,(zaw (s.getD m .zero).fields l i).2.2.1,0)) rfl rfl (znF p l _ _)
   by_cases hx:(zjE (zlx s d) (decide (d=0)) (s.getD m .zero).fields l (zaw (s.getD m .zero).fields l i)).2=0
   ·
    rw[if_neg (by omega)] at h
    rw[hv,if_neg (by omega)]
    have hto:=zeR _ _ _ hc
    exact zez s d m p l n _ (by omega) h
   ·
    rw[if_pos hx] at h;exact absurd h hx
  ·
   rw[if_pos hc] at h;exact absurd h hc
theorem zhE (s:List Mes)(d m:Nat)(p l:List UInt8)(hl:(zge s d m l 0).2=0):∀ (n i:Nat),p.length≤n+i→i≤p.length→(zge s d m p i).2=0→(zge s d m (p++l) i).2=0
 | 0,i,hn,hi,_=>by
  obtain rfl:i=p.length:=by omega
  have:=zez s d m p l l.length 0 (by omega) hl
  exact this
 | n+1,i,hn,hi,h=>by
  by_cases hi2:p.length≤i
  ·
   obtain rfl:i=p.length:=by omega
   exact zez s d m p l l.length 0 (by omega) hl
  rw[zdX] at h ⊢
  rw[if_neg hi2] at h
  rw[if_neg (by rw[List.length_append];omega)]
  by_cases hc:(zaw (s.getD m .zero).fields p i).2.2.2=0
  ·
   rw[if_neg (by omega)] at h
   rw[zpg _ l hc]
   rw[if_neg (by omega)]
   have hb:=zph hc
   have hv:=zkP (rec:=zlx s d) (deep:=decide (d=0)) (fs:=(s.getD m .zero).fields) (l:=p) (l':=p++l) (v:=zaw (s.getD m .zero).fields p i) (v':=zaw (s.getD m .zero).fields p i) rfl rfl (zqM l hb.2 hb.1)
   by_cases hx:(zjE (zlx s d) (decide (d=0)) (s.getD m .zero).fields p (zaw (s.getD m .zero).fields p i)).2=0
   ·
    rw[if_neg (by omega)] at h
    rw[hv,if_neg (by omega)]
    have hto:=zeR _ _ _ hc
    exact zhE s d m p l hl n _ (by omega) hto.2 h
   ·
    rw[if_pos hx] at h;exact absurd h hx
  ·
   rw[if_pos hc] at h;exact absurd h hc
theorem zqN {s:List Mes}{d m:Nat}{p l:List UInt8}(hp:(zfJ s d m p).2=0)(hl:(zfJ s d m l).2=0):(zfJ s d m (p++l)).2=0:=by
 rw[zfK] at *
 exact zhE s d m p l hl p.length 0 (by omega) (by omega) hp
theorem zqO (s:List Mes)(d m:Nat):(zfJ s d m []).2=0:=by
 rw[zfK,zdX,if_pos (by simp)]
theorem zkQ {s:List Mes}{d m:Nat}:∀ {ls:List (List UInt8)},(∀ l∈ls,(zfJ s d m l).2=0)→(zfJ s d m ls.flatten).2=0
 | [],_=>zqO s d m
 | l::r,h=>by
  rw[List.flatten_cons]
  exact zqN (h l (by simp)) (zkQ fun x hx=>h x (by simp[hx]))
end
section
open Go.RowKit
end
section
open Go.RowKit
theorem zi1 {α:Type}(f:Fld)(l:List α){x:α}(h:x∈counts f l):x∈l:=by
 unfold counts at h
 split at h
 ·
  exact h
 ·
  exact zi0 l h
theorem zqP {α β:Type}(g:α→List β)(l:List α)(h:∀ x∈l,g x=[]):l.flatMap g=[]:=by
 rw[List.flatMap_eq_nil_iff];exact h
structure zfU (R:Int→List UInt8→Prop)(f:Fld)(l:List UInt8)(xs:List VW):Prop where
 kind:zaA f.kind=true
 run:∀ x∈xs,x.run=true→f.rep=true∧zai f.kind=true
 text:f.kind=15→∀ x∈xs,zaS (zbf l x)=(zbf l x).length
 sub:f.kind=17→(∀ x∈xs,R f.of (zbf l x))∧(f.rep=false→xs≠[]→R f.of (xs.flatMap (zbf l)))
end
section
open Go.RowKit
theorem zpi {n:Nat}{nm nu:Bool}{f:Fld}(h:zau n nm nu f=0):nu=false∧zc5 f.number=true:=by
 unfold zau at h
 by_cases h1:zav f.name=false
 ·
  rw[if_pos h1] at h;cases h
 rw[if_neg h1] at h
 cases nm with
 | true=>simp at h
 | false =>
  rw[if_neg (by decide)] at h
  cases h2:zc5 f.number with
  | false=>rw[if_pos h2] at h;cases h
  | true =>
   rw[if_neg (by rw[h2];decide)] at h
   cases nu with
   | true=>simp at h
   | false=>exact⟨rfl,rfl⟩
theorem zmJ {n:Nat}{fs:List Fld}:∀ (k j:Nat),j=fs.length - k→zaq n (fs.take k) (fs.drop k) k=none→∀ i,k≤i→i<fs.length→za8 (fs.take i) (fs.getD i .zero).number=false∧zc5 (fs.getD i .zero).number=true
 | k,0,hj,_,i,h1,h2=>by omega
 | k,j+1,hj,h,i,h1,h2=>by
  rw[zdz n fs k (by omega)] at h
  by_cases hc:zau n (zaY (fs.take k) (fs.getD k .zero).name) (za8 (fs.take k) (fs.getD k .zero).number) (fs.getD k .zero)=0
  ·
   rw[if_pos hc] at h
   by_cases hik:i=k
   ·
    subst hik;exact zpi hc
   ·
    exact zmJ (k+1) j (by omega) h i (by omega) h2
  ·
   rw[if_neg hc] at h;cases h
theorem zd4 {s:List Mes}(h:zar s=true)(m:Nat)(hm:m<s.length)(i:Nat)(hi:i<(s.getD m .zero).fields.length) :
  za8 ((s.getD m .zero).fields.take i) ((s.getD m .zero).fields.getD i .zero).number=false∧zc5 ((s.getD m .zero).fields.getD i .zero).number=true:=by
 have h0:(za6 s).2.2=0:=of_decide_eq_true h
 unfold za6 at h0
 by_cases h1:s.length=0∨100<s.length
 ·
  rw[if_pos h1] at h0;simp at h0
 rw[if_neg h1] at h0
 have hmem:s.getD m .zero∈s:=by
  have:s.getD m .zero=s[m]:=by simp[List.getD,hm]
  rw[this];exact List.getElem_mem hm
 obtain⟨h2,-,-⟩:=zb7 s [] 0 h0 _ hmem
 exact zmJ 0 _ rfl (by simpa using h2) i (by omega) hi
theorem zfV (p:Fld→Bool)(fs:List Fld)(q:Nat)(hq:q<fs.length)(hp:p (fs.getD q .zero)=true)(hb:∀ j,j<q→p (fs.getD j .zero)=false) :
  ∀ (j k:Nat),k+j=q→zam p (fs.drop k) k=(q:Int)
 | 0,k,h=>by
  obtain rfl:k=q:=by omega
  rw[zeQ p fs k hq,hp,if_pos rfl]
 | j+1,k,h=>by
  rw[zeQ p fs k (by omega),hb k (by omega),if_neg (by decide)]
  exact zfV p fs q hq hp hb j (k+1) (by omega)
structure zrU (fs:List Fld):Prop where
 met:∀ i,i<fs.length→za8 (fs.take i) (fs.getD i .zero).number=false
 pos:∀ i,i<fs.length→1≤(fs.getD i .zero).number
theorem zd5 {s:List Mes}(h:zar s=true)(m:Nat)(hm:m<s.length):zrU (s.getD m .zero).fields:=
 ⟨fun i hi=>(zd4 h m hm i hi).1,fun i hi=>(of_decide_eq_true (zd4 h m hm i hi).2).1⟩
theorem zrU.ne {fs:List Fld}(h:zrU fs){i j:Nat}(hij:i<j)(hj:j<fs.length):(fs.getD i .zero).number≠(fs.getD j .zero).number:=by
 intro e
 have h1:=h.met j hj
 unfold za8 at h1
 rw[List.any_eq_false] at h1
 have hi:i<fs.length:=by omega
 have h2:=h1 (fs.getD i .zero) (by
  have e2:fs.getD i .zero=fs[i]:=by simp[List.getD,hi]
  rw[e2]
  exact List.mem_take_iff_getElem.2 ⟨i,by omega,rfl⟩)
 exact h2 (decide_eq_true e)
theorem zrU.at {fs:List Fld}(h:zrU fs){q:Nat}(hq:q<fs.length):zah fs (fs.getD q .zero).number=q:=by
 have:=zfV (fun f=>decide (f.number=(fs.getD q .zero).number)) fs q hq (decide_eq_true rfl) (fun j hj=>decide_eq_false (h.ne hj hq)) q 0 (by omega)
 rw[List.drop_zero] at this
 exact this
theorem zrU.lt {fs:List Fld}(h:zrU fs){i j:Int}(hi:0≤i∧i<fs.length)(hj:0≤j∧j<fs.length)(ha:zc9 fs i j):zdA fs i<zdA fs j:=by
 rcases ha with ha|⟨h1,h2⟩
 ·
  exact ha
 ·
  exact absurd h1 (h.ne (i:=i.toNat) (j:=j.toNat) (by omega) (by omega))
theorem zcA {all:List VW}{i:Int}{x:VW}(h:x∈zaz all i):x∈all∧x.k=i:=by
 unfold zaz at h
 rw[List.mem_filter] at h
 exact⟨h.1,of_decide_eq_true h.2⟩
def zpj (s:List Mes)(d:Nat)(o:Int)(b:List UInt8):Prop:=∃ d',d=d'+1∧(zfJ s d' o.toNat b).2=0
theorem znG {s:List Mes}(hs:zar s=true){d m:Nat}{l:List UInt8}(hm:m<s.length)(h:(zfJ s d m l).2=0){q:Nat}(hq:q<(s.getD m .zero).fields.length) :
  zfU (zpj s d) ((s.getD m .zero).fields.getD q .zero) l (zaz (zfm (s.getD m .zero).fields l).1 q):=by
 have hv:=(zpb h).2
 have hf:=zdp hs m hm _ (zfN (s.getD m .zero).fields .zero hq)
 have hx:∀ x∈zaz (zfm (s.getD m .zero).fields l).1 q,zfT s d m l x∧x.k=q:=fun x hx=>⟨hv x (zcA hx).1,(zcA hx).2⟩
 refine⟨hf.1,fun x h1 h2=>?_,fun h15 x h1=>(hx x h1).1.text (hx x h1).2 h15,fun h17=>⟨fun x h1=>(hx x h1).1.sub (hx x h1).2 h17,fun _ hne=>?_⟩⟩
 ·
  obtain⟨-,-,-,h3⟩:=(hx x h1).1.facts
  rcases h3 with ⟨-,h3⟩|⟨k,h3,-,h4,-⟩
  ·
   rw[h3] at h2;cases h2
  ·
   have:k=q:=by have:=(hx x h1).2;omega
   subst this
   exact h4 h2
 ·
  obtain⟨x0,hx0⟩:=List.exists_mem_of_ne_nil _ hne
  obtain⟨d',rfl,-⟩:=(hx x0 hx0).1.sub (hx x0 hx0).2 h17
  refine⟨d',rfl,?_⟩
  rw[List.flatMap_def]
  refine zkQ fun b hb=>?_
  obtain⟨x,hx1,rfl⟩:=List.mem_map.1 hb
  obtain⟨d2,e2,h2⟩:=(hx x hx1).1.sub (hx x hx1).2 h17
  obtain rfl:d2=d':=by omega
  exact h2
theorem zqQ {s:List Mes}(hs:zar s=true){m:Nat}(hm:m<s.length){q:Nat}(hq:q<(s.getD m .zero).fields.length) :
  0≤((s.getD m .zero).fields.getD q .zero).of∧((s.getD m .zero).fields.getD q .zero).of<s.length:=by
 obtain⟨-,h1,h2,-⟩:=zdp hs m hm _ (zfN (s.getD m .zero).fields .zero hq)
 by_cases h17:((s.getD m .zero).fields.getD q .zero).kind=17
 ·
  exact h1 h17
 ·
  have:=h2 h17
  have:=(zns hs).1
  omega
end
section
open Go.RowKit
def zek (x:VW):Nat:=x.r.to - x.r.start
def zb1 (l:List VW):Nat:=(l.map zek).sum
def zga (x:VW):Prop:=1+(x.r.to - x.r.at')≤zek x
theorem zg9 (fs:List Fld)(l:List UInt8):∀ (n i:Nat),i≤l.length→zb1 (zaU fs l n i).1+i≤l.length∧∀ x∈(zaU fs l n i).1,zga x
 | 0,i,hi=>by simp[zaU,zb1];omega
 | n+1,i,hi=>by
  rw[zaU]
  by_cases h:l.length≤i
  ·
   rw[if_pos h];simp[zb1];omega
  rw[if_neg h]
  rcases zcz fs l i with ⟨c,hc,e,-⟩|⟨r,h1,h2,h3,h4,-,hcase⟩
  ·
   rw[e,if_pos hc];simp[zb1];omega
  ·
   obtain⟨k,run,e⟩:∃ k run,zaw fs l i=(r,k,run,0):=by
    rcases hcase with e|⟨k,run,-,e,-⟩
    ·
     exact⟨_,_,e⟩
    ·
     exact⟨_,_,e⟩
   rw[e,if_neg (by simp)]
   simp only
   obtain⟨g1,g2⟩:=zg9 fs l n r.to h4
   split
   ·
    simp[zb1];omega
   ·
    refine⟨?_,fun x hx=>?_⟩
    ·
     unfold zb1 at g1 ⊢
     rw[List.map_cons,List.sum_cons]
     have:zek ⟨r,k,run⟩=r.to - r.start:=rfl
     omega
    ·
     rcases List.mem_cons.1 hx with rfl|hx
     ·
      unfold zga zek;simp only;omega
     ·
      exact g2 x hx
theorem zjR (a b:List VW):zb1 (a++b)=zb1 a+zb1 b:=by unfold zb1;rw[List.map_append,List.sum_append]
theorem zi2:∀ (all:List VW) (ords:List Int),ords.Nodup→(∀ i∈ords,0≤i)→(ords.map fun i=>zb1 (zaz all i)).sum+zb1 (all.filter fun x=>decide (x.k<0))≤zb1 all
 | [],ords,_,_=>by
  have:(ords.map fun i=>zb1 (zaz [] i)).sum=0:=by
   rw[List.sum_eq_zero_iff_forall_eq_nat]
   intro y hy
   obtain⟨i,-,rfl⟩:=List.mem_map.1 hy
   rfl
  rw[this];simp[zb1]
 | x::r,ords,hn,h0=>by
  have ih:=zi2 r ords hn h0
  have hx:(ords.map fun i=>zb1 (zaz (x::r) i)).sum≤(ords.map fun i=>zb1 (zaz r i)).sum+(if x.k∈ords then zek x else 0):=by
   clear ih h0
   induction ords with
   | nil=>simp
   | cons i t iht =>
    rw[List.nodup_cons] at hn
    have:=iht hn.2
    have hv:zb1 (zaz (x::r) i)=(if x.k=i then zek x else 0)+zb1 (zaz r i):=by
     unfold zaz
     rw[List.filter_cons]
     by_cases he:x.k=i
     ·
      rw[if_pos (by simpa using he),if_pos he];unfold zb1;rw[List.map_cons,List.sum_cons]
     ·
      rw[if_neg (by simpa using he),if_neg he,Nat.zero_add]
    rw[List.map_cons,List.sum_cons,List.map_cons,List.sum_cons,hv]
    by_cases he:x.k=i
    ·
     have hnt:x.k ∉ t:=by rw[he];exact hn.1
     rw[if_neg hnt] at this
     rw[if_pos he,if_pos (by simp[he])]
     omega
    ·
     rw[if_neg he]
     by_cases ht:x.k∈t
     ·
      rw[if_pos ht] at this
      rw[if_pos (by simp[ht])];omega
     ·
      rw[if_neg ht] at this
      rw[if_neg (by simp[he,ht])];omega
  have hs:zb1 (x::r)=zek x+zb1 r:=by unfold zb1;rw[List.map_cons,List.sum_cons]
  rw[List.filter_cons]
  by_cases hk:x.k<0
  ·
   rw[if_pos (by simpa using hk)]
   have hno:x.k ∉ ords:=fun hm=>by have:=h0 _ hm;omega
   rw[if_neg hno] at hx
   have:zb1 (x::r.filter fun x=>decide (x.k<0))=zek x+zb1 (r.filter fun x=>decide (x.k<0)):=by unfold zb1;rw[List.map_cons,List.sum_cons]
   omega
  ·
   rw[if_neg (by simpa using hk)]
   by_cases hm:x.k∈ords
   ·
    rw[if_pos hm] at hx;omega
   ·
    rw[if_neg hm] at hx;omega
theorem zcW (l:List UInt8)(x:VW):(zbf l x).length≤x.r.to - x.r.at':=by unfold zbf zct;rw[List.length_take];omega
theorem zfW {α:Type}(g:VW→List α)(W:List α→Nat)(h0:W []=0)(ha:∀ a b,W (a++b)=W a+W b):∀ (xs:List VW),(∀ x∈xs,W (g x)≤zek x)→W (xs.flatMap g)≤zb1 xs
 | [],_=>by rw[List.flatMap_nil,h0];exact Nat.zero_le _
 | x::r,h=>by
  have ih:=zfW g W h0 ha r fun y hy=>h y (by simp[hy])
  have h1:=h x (by simp)
  rw[List.flatMap_cons,ha]
  unfold zb1 at ih ⊢
  rw[List.map_cons,List.sum_cons]
  omega
theorem zlX:twt []=0:=rfl
theorem zrV (a b:List (List UInt8)):twt (a++b)=twt a+twt b:=by unfold twt;rw[List.map_append,List.sum_append]
theorem znH (f:Fld)(xs:List VW):zb1 (counts f xs)≤zb1 xs:=by
 unfold counts
 split
 ·
  exact Nat.le_refl _
 ·
  unfold zbI
  conv=>rhs;rw[←List.take_append_drop (xs.length - 1) xs,zjR]
  omega
theorem zd6 {f:Fld}{l:List UInt8}{x:VW}(h:zga x):(zaW f l x).length≤zek x:=by
 unfold zga at h
 unfold zaW
 split
 ·
  unfold zd3
  split
  ·
   have h1:=zfi (zaH f.kind) _ (zbf l x) (Nat.le_refl _)
   have h2:=zcW l x
   simp only[zkN,List.length_map]
   omega
  ·
   simp
 ·
  split
  ·
   simp;omega
  ·
   simp
theorem zlY {f:Fld}{l:List UInt8}{x:VW}(h:zga x):twt (zaQ f l x)≤zek x:=by
 unfold zga at h
 unfold zaQ
 split
 ·
  rw[zlX];omega
 ·
  have h2:=zcW l x
  simp[twt];omega
theorem zqR {xs:List VW}(ht:∀ x∈xs,zga x):xs.length≤zb1 xs:=by
 induction xs with
 | nil=>simp
 | cons x r ih =>
  have h1:=ht x (by simp)
  have h2:=ih fun y hy=>ht y (by simp[hy])
  unfold zga at h1
  unfold zb1 at h2 ⊢
  rw[List.map_cons,List.sum_cons,List.length_cons]
  omega
theorem zjS {α:Type}{F:α→Nat}{sub:Int→List UInt8→List α}{f:Fld}{l:List UInt8}{xs:List VW}(hrun:f.kind=17→∀ x∈xs,x.run=false)(ht:∀ x∈xs,zga x)
  (hs:∀ b,((sub f.of b).map F).sum≤1+4*b.length) (hm:0<many (zbA sub f l xs)):vwt F (zbA sub f l xs)≤4*zb1 xs:=by
 have hne:xs≠[]:=by
  rintro rfl
  unfold many zbA counts zbI at hm
  simp at hm
 have hpos:=zqR ht
 have hl:0<xs.length:=List.length_pos_iff.2 hne
 have hc:=znH f xs
 have htc:∀ x∈counts f xs,zga x:=fun x hx=>ht x (zi1 f xs hx)
 have hw:=zfW (zaW f l) List.length rfl (fun a b=>List.length_append) (counts f xs) fun x hx=>zd6 (htc x hx)
 have hx:=zfW (zaQ f l) twt zlX zrV (counts f xs) fun x hx=>zlY (htc x hx)
 unfold vwt zbA
 simp only
 by_cases h17:f.kind=17
 ·
  rw[if_pos h17,if_pos h17,zlX]
  have hw0:((counts f xs).flatMap (zaW f l))=[]:=by
   refine zqP _ _ fun x hx=>?_
   unfold zaW
   rw[if_neg (by rw[hrun h17 x (zi1 f xs hx)];decide),if_neg (by rw[h17];decide)]
  rw[hw0]
  have hsum:∀ ys:List VW,(∀ x∈ys,zga x)→((ys.flatMap fun x=>sub f.of (zbf l x)).map F).sum+ys.length≤4*zb1 ys:=by
   intro ys
   induction ys with
   | nil=>simp[zb1]
   | cons x r ih =>
    intro hy
    have h1:=hy x (by simp)
    have h2:=ih fun y h=>hy y (by simp[h])
    have h3:=hs (zbf l x)
    have h4:=zcW l x
    unfold zga at h1
    unfold zb1 at h2 ⊢
    rw[List.flatMap_cons,List.map_append,List.sum_append,List.length_cons,List.map_cons,List.sum_cons]
    omega
  have hlen:∀ ys:List VW,(∀ x∈ys,zga x)→(ys.flatMap (zbf l)).length+ys.length≤zb1 ys:=by
   intro ys
   induction ys with
   | nil=>simp[zb1]
   | cons x r ih =>
    intro hy
    have h1:=hy x (by simp)
    have h2:=ih fun y h=>hy y (by simp[h])
    have h4:=zcW l x
    unfold zga at h1
    unfold zb1 at h2 ⊢
    rw[List.flatMap_cons,List.length_append,List.length_cons,List.map_cons,List.sum_cons]
    omega
  split
  ·
   have:=hsum xs ht
   simp only[List.length_nil];omega
  ·
   have h1:=hs (xs.flatMap (zbf l))
   have h2:=hlen xs ht
   simp only[List.length_nil];omega
 ·
  rw[if_neg h17,if_neg h17]
  have hboth:((counts f xs).flatMap (zaW f l)).length+twt ((counts f xs).flatMap (zaQ f l))≤2*zb1 xs:=by omega
  simp only[List.map_nil,List.sum_nil]
  omega
theorem zfX (fs:List Fld):(zaL fs).Nodup:=by
 have h:=(zb0 fs fs.length).2
 refine List.Pairwise.imp (fun {a b} hab=>?_) h
 rintro rfl
 exact zc9.asymm _ _ hab hab
theorem zfY {α:Type}(F G:α→Nat)(p:α→Bool):∀ (l:List α),(∀ x∈l,p x=true→F x≤G x)→((l.filter p).map F).sum≤(l.map G).sum
 | [],_=>by simp
 | x::r,h=>by
  have ih:=zfY F G p r fun y hy=>h y (by simp[hy])
  rw[List.filter_cons,List.map_cons,List.sum_cons]
  by_cases hp:p x=true
  ·
   rw[if_pos hp,List.map_cons,List.sum_cons]
   have:=h x (by simp) hp
   omega
  ·
   rw[if_neg hp];omega
theorem zmK (fs:List Fld)(l:List UInt8):∀ (n i:Nat),∀ x∈(zaU fs l n i).1,∀ k:Nat,x.k=k→x.run=true→zai (fs.getD k .zero).kind=true
 | 0,i=>by simp[zaU]
 | n+1,i=>by
  rw[zaU]
  by_cases h:l.length≤i
  ·
   rw[if_pos h];simp
  rw[if_neg h]
  by_cases hc:(zaw fs l i).2.2.2=0
  ·
   rw[if_neg (by omega)]
   have ih:=zmK fs l n (zaw fs l i).1.to
   simp only
   split
   ·
    simp
   ·
    intro x hx
    rcases List.mem_cons.1 hx with rfl|hx
    ·
     intro k hk hr
     simp only at hk hr
     rcases zcz fs l i with ⟨c,hc',e,-⟩|⟨r,h1,h2,h3,h4,-,e|⟨k',run,-,e,-,h6,-⟩⟩
     ·
      rw[e] at hc;exact absurd hc hc'
     ·
      rw[e] at hr;simp at hr
     ·
      rw[e] at hk hr
      simp only at hk hr
      obtain rfl:k'=k:=by omega
      exact (h6 hr).2.1
    ·
     exact ih x hx
  ·
   rw[if_pos hc];simp
theorem zmL (g:Int→Nat):∀ (l:List Int),(l.map fun i=>4*g i).sum=4*(l.map g).sum
 | []=>by simp
 | x::r=>by rw[List.map_cons,List.sum_cons,zmL g r,List.map_cons,List.sum_cons];omega
theorem zgE {α:Type}(F:α→Nat){sub:Int→List UInt8→List α}(fs:List Fld)(l:List UInt8)(hs:∀ o b,((sub o b).map F).sum≤1+4*b.length) :
  twt (zey sub fs l).unk+((zey sub fs l).vals.map (vwt F)).sum≤4*l.length:=by
 obtain⟨h1,h2⟩:=zg9 fs l l.length 0 (Nat.zero_le _)
 have h3:=zmK fs l l.length 0
 have h4:=zi2 (zfm fs l).1 (zaL fs) (zfX fs) (fun i hi=>(zaM hi).1)
 have hall:zb1 (zfm fs l).1≤l.length:=by unfold zfm;omega
 have hunk:twt (zey sub fs l).unk≤2*zb1 ((zfm fs l).1.filter fun x=>decide (x.k<0)):=by
  unfold zey twt zb1
  simp only[List.map_map]
  have:∀ (ys:List VW),(∀ x∈ys,zga x)→(ys.map ((fun t=>1+t.length) ∘ fun x=>zct l x.r.start x.r.to)).sum≤2*(ys.map zek).sum:=by
   intro ys
   induction ys with
   | nil=>simp
   | cons x r ih =>
    intro hy
    have g1:=hy x (by simp)
    have g2:=ih fun y h=>hy y (by simp[h])
    have g3:(zct l x.r.start x.r.to).length≤zek x:=by unfold zct zek;rw[List.length_take];omega
    unfold zga at g1
    rw[List.map_cons,List.sum_cons,List.map_cons,List.sum_cons]
    simp only[Function.comp]
    omega
  exact this _ fun x hx=>h2 x (List.mem_filter.1 hx).1
 have hval:((zey sub fs l).vals.map (vwt F)).sum≤4*((zaL fs).map fun i=>zb1 (zaz (zfm fs l).1 i)).sum:=by
  rw[←zmL]
  unfold zey
  simp only
  rw[List.filter_map,List.map_map]
  refine zfY _ _ _ _ fun i hi hp=>?_
  simp only[Function.comp] at hp ⊢
  have hb:=zaM hi
  obtain⟨q,rfl⟩:∃ q:Nat,i=q:=⟨i.toNat,by omega⟩
  simp only[Int.toNat_natCast] at hp ⊢
  refine zjS (fun h17 x hx=>?_) (fun x hx=>h2 x (zcA hx).1) (fun b=>hs _ b) (of_decide_eq_true hp)
  cases hr:x.run with
  | false=>rfl
  | true =>
   have:=h3 x (zcA hx).1 q (zcA hx).2 hr
   rw[h17] at this
   simp[zai] at this
 omega
theorem zdL (s:List Mes):∀ (d m:Nat) (l:List UInt8),mwt (d+1) (tof s d m l)≤1+4*l.length
 | 0,m,l=>by
  have:=zgE (mwt 0) (sub:=zfp s 0) (s.getD m .zero).fields l (fun o b=>by show ([]:List Nat).sum≤_;simp)
  rw[zlU]
  show 1+twt (zey (zfp s 0) (s.getD m .zero).fields l).unk+((zey (zfp s 0) (s.getD m .zero).fields l).vals.map (vwt (mwt 0))).sum≤_
  omega
 | d+1,m,l=>by
  have:=zgE (mwt (d+1)) (sub:=zfp s (d+1)) (s.getD m .zero).fields l (fun o b=>by
   have:=zdL s d o.toNat b
   show ([mwt (d+1) (tof s d o.toNat b)]).sum≤_
   simp;omega)
  rw[zlU]
  show 1+twt (zey (zfp s (d+1)) (s.getD m .zero).fields l).unk+((zey (zfp s (d+1)) (s.getD m .zero).fields l).vals.map (vwt (mwt (d+1)))).sum≤_
  omega
end
section
open Go.RowKit
def zat (w:World)(base:Nat)(v:Value)(l:List (List UInt8)):Prop:=w.ownsRow base 9 1 v l.length (l.map zbv)
theorem zhF:(Tryz.prog.info? 9).map (fun i=>(i.zero,i.size,i.bytes))=some (some (.string ⟨#[]⟩),1,16):=by kernel_rfl
theorem zi3:Tryz.prog.underlying 25=some (.slice 9):=Tryz.underlying25
theorem zat.form {w:World}{base:Nat}{v:Value}{l:List (List UInt8)}(h:zat w base v l):∃ a c,v= .slice a l.length c:=by
 rcases h.2 with ⟨h1,h2⟩|⟨g,cap,cur,hv,-⟩
 ·
  exact⟨none,0,by rw[h1,h2]⟩
 ·
  exact⟨_,_,hv⟩
theorem zat.strs {w:World}{base:Nat}{v:Value}{l:List (List UInt8)}(h:zat w base v l)(hn:l.length≤140737488355328)(hl:∀ t∈l,t.length≤140737488355328):zbe w v l:=
 ⟨zbV h hn,hl⟩
theorem zat.one {W:World}{base:Nat}{v:Value}{l:List (List UInt8)}(h:zat W base v l)(t:List UInt8)(hn:l.length+1≤1099511627777)(hB:base≤W.heap.size) :
  ∃ v' w',(Builtin.append_ #[25,25] 25 #[v,.slice (some ⟨W.heap.size,0,none⟩) 1 1]).run Tryz.prog (W.alloc (.cells #[zbv t] 9))= .ok v' w'∧zat w' base v' (l++[t])∧W.grownBy w' v.ownBlock:=by
 have hA:Below W.heap.size W (W.alloc (.cells #[zbv t] 9)):=(Below.refl _ _).alloc (Nat.le_refl _) _
 have hx:Seg (W.alloc (.cells #[zbv t] 9)) (.slice (some ⟨W.heap.size,0,none⟩) 1 1) 1 1 [zbv t]:=zck (Blk.new W [zbv t] _) 1 1 rfl (by omega)
 have h':(W.alloc (.cells #[zbv t] 9)).ownsRow base 9 1 v l.length (l.map zbv):=zaF h fun b _ _ he=>hA.block b (Array.getElem?_eq_some_iff.1 he).1
 obtain⟨v',w',h1,h2,h3,-⟩:=za9 (P:=Tryz.prog) _ base 25 25 9 (.string ⟨#[]⟩) 1 16 zi3 zhF rfl (by decide) v _ l.length 1 _ _ h' hx (by intro u hu;simp at hu;subst hu;rfl) (by omega) (by omega) (by simp;omega)
 refine⟨v',w',h1,?_,?_⟩
 ·
  unfold zat
  rw[List.length_append,List.map_append]
  exact h2
 ·
  exact⟨h3.os,h3.tape,h3.output,Nat.le_trans (by simp) h3.size,fun k hk hr=>(h3.block k (by simp;omega) hr).trans (Below.heap_alloc W _ k hk)⟩
end
end Go.Proofs.YtpckoeicbjfnhaaGreatDoor
