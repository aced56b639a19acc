/- Parts of a proof: texts of the author, merged. No condition of their own. -/
import Derived.Test.YtpckoeicbjfnhaaGreatDoorY07
import Derived.Test.YtpckoeicbjfnhaaGreatDoorY09
import Derived.Test.YtpckoeicbjfnhaaGreatDoorY11
import Derived.Test.YtpckoeicbjfnhaaGreatDoorY16
namespace Go.Proofs.YtpckoeicbjfnhaaGreatDoor
set_option maxRecDepth 100000
set_option maxHeartbeats 16000000
section
open Go.RowKit
theorem zj0 (fs:List Fld)(l:List UInt8):∀ (n i:Nat),(zaB fs l n i).1.length+i≤max l.length i
 | 0,i=>by simp[zaB];omega
 | n+1,i=>by
  rw[zaB]
  by_cases hi:l.length≤i
  ·
   rw[if_pos hi];simp;omega
  rw[if_neg hi]
  by_cases hc:(zao fs l i).2.2.2=0
  ·
   rw[if_neg (by omega)]
   have hto:=zdQ _ _ _ hc
   have ih:=zj0 fs l n (zao fs l i).1.to
   simp only
   split
   ·
    simp;omega
   ·
    simp;omega
  ·
   rw[if_pos hc];simp;omega
theorem zk9 (fs:List Fld)(l:List UInt8):(zbA fs l).1.length≤l.length:=by
 have:=zj0 fs l l.length 0
 unfold zbA
 omega
theorem zj1 {α:Type}(l:List α){x:α}(h:x∈zbn l):x∈l:=List.mem_of_mem_drop h
theorem zht {α:Type}(l:List α):(l=[]∧zbn l=[])∨∃ p x,l=p++[x]∧zbn l=[x]:=by
 rcases List.eq_nil_or_concat l with h|⟨p,x,h⟩
 ·
  subst h;exact .inl ⟨rfl,rfl⟩
 ·
  rw[List.concat_eq_append] at h
  subst h
  exact .inr ⟨p,x,rfl,zf3 p x⟩
theorem ziw {α β:Type}(g:α→List β)(l:List α)(h:(∀ x∈l,(g x).length=1)∨(∀ x∈l,g x=[])):zbn (l.flatMap g)=(zbn l).flatMap g:=by
 rcases zht l with ⟨rfl,h2⟩|⟨p,x,rfl,h2⟩
 ·
  rfl
 ·
  rw[h2,List.flatMap_append]
  rcases h with h|h
  ·
   have h1:=h x (by simp)
   obtain⟨y,hy⟩:∃ y,g x=[y]:=List.length_eq_one_iff.1 h1
   simp only[List.flatMap_cons,List.flatMap_nil,List.append_nil,hy]
   exact zf3 _ _
  ·
   have h1:(p.flatMap g)=[]:=by
    rw[List.flatMap_eq_nil_iff]
    intro y hy
    exact h y (by simp[hy])
   rw[h1]
   simp[h x (by simp),zbn]
end
section
open Go.RowKit
theorem zqV (r:List UInt8):∀ (l:List UInt8) (n w:Nat),(vgo n w l).2.2=0→vgo n w (l++r)=vgo n w l
 | [],n,w,h=>by simp[vgo] at h
 | c::t,n,w,h=>by
  rw[List.cons_append]
  rw[vgo] at h ⊢
  conv=>rhs;rw[vgo]
  by_cases h1:n=9∧1<c.toNat
  ·
   rw[if_pos h1] at h;simp at h
  rw[if_neg h1] at h ⊢
  rw[if_neg h1]
  by_cases h2:c.toNat<128
  ·
   rw[if_pos h2,if_pos h2]
  rw[if_neg h2] at h ⊢
  rw[if_neg h2]
  exact zqV r t _ _ h
theorem zeb {l:List UInt8}(r:List UInt8)(h:(zaO l).2.2=0):zaO (l++r)=zaO l:=zqV r l 0 0 h
theorem zqW {l:List UInt8}(r:List UInt8)(h:(zc1 l).2.2.2=0):zc1 (l++r)=zc1 l:=by
 have h1:(zaO l).2.2=0:=by
  refine Decidable.byContradiction fun hn=>?_
  unfold zc1 at h
  rw[if_pos hn] at h
  exact hn h
 unfold zc1
 rw[zeb r h1]
theorem zqX (wire:Nat){l:List UInt8}(r:List UInt8)(h:(zcH wire l).2.2=0):zcH wire (l++r)=zcH wire l:=by
 unfold zcH at h ⊢
 by_cases h0:wire=0
 ·
  rw[if_pos h0] at h ⊢
  rw[if_pos h0,zeb r h]
 rw[if_neg h0] at h ⊢
 rw[if_neg h0]
 by_cases h1:wire=1
 ·
  rw[if_pos h1,if_pos h1]
 rw[if_neg h1] at h ⊢
 rw[if_neg h1]
 by_cases h5:wire=5
 ·
  rw[if_pos h5,if_pos h5]
 rw[if_neg h5] at h ⊢
 rw[if_neg h5,zeb r h]
theorem zqY {l:List UInt8}(r:List UInt8){i:Nat}(h:(zaJ l i).2=0):zaJ (l++r) i=zaJ l i:=by
 rcases zbB l i with ⟨hi,er⟩|⟨hi,c,et,hc,er⟩|⟨hi,k,x,n,et,h1,h2,h3,h4,h5,h6,hcs⟩
 ·
  rw[er] at h;simp at h
 ·
  rw[er] at h;simp at h;omega
 ·
  rcases hcs with ⟨a,m,c,es,hc,-,-,er⟩|⟨a,m,es,-,-,-,-,er⟩|⟨a,m,es,g1,g2,g3,er⟩
  ·
   rw[er] at h;simp at h;omega
  ·
   rw[er] at h;simp at h
  ·
   rw[er]
   unfold zaJ
   rw[if_neg (by rw[List.length_append];omega)]
   have e1:(l++r).drop i=l.drop i++r:=List.drop_append_of_le_length (by omega)
   have e2:(l++r).drop (i+n)=l.drop (i+n)++r:=List.drop_append_of_le_length (by omega)
   rw[e1,zqW r (by rw[et]),et]
   simp only
   rw[if_neg (by simp),e2,zqX x r (by rw[es]),es]
   simp only
   rw[if_neg (by simp),if_neg (by rw[List.length_append];omega)]
theorem zl9 (fs:List Fld){l:List UInt8}(r:List UInt8){i:Nat}(h:(zao fs l i).2.2.2=0):zao fs (l++r) i=zao fs l i:=by
 have h1:=(zk5 h).2.2.2.1
 unfold zao
 rw[zqY r h1]
def Rec.shift (n:Nat)(x:Rec):Rec:=⟨x.number,x.wire,n+x.start,n+x.at',n+x.to⟩
theorem znr (p l:List UInt8)(i:Nat):zaJ (p++l) (p.length+i)=(if (zaJ l i).2=0 then (Rec.shift p.length (zaJ l i).1,0) else (zaJ l i)):=by
 have e1:(p++l).drop (p.length+i)=l.drop i:=by rw[List.drop_append];simp
 rcases zbB l i with ⟨hi,er⟩|⟨hi,c,et,hc,er⟩|⟨hi,k,x,n,et,h1,h2,h3,h4,h5,h6,hcs⟩
 ·
  rw[er,if_neg (by simp)]
  unfold zaJ
  rw[if_pos (by rw[List.length_append];omega)]
 ·
  rw[er,if_neg (by simp;omega)]
  unfold zaJ
  rw[if_neg (by rw[List.length_append];omega),e1,et]
  simp only
  rw[if_pos (by omega)]
 ·
  have e2:(p++l).drop (p.length+i+n)=l.drop (i+n):=by rw[Nat.add_assoc,List.drop_append];simp
  rcases hcs with ⟨a,m,c,es,hc,-,-,er⟩|⟨a,m,es,g1,g2,g3,g4,er⟩|⟨a,m,es,g1,g2,g3,er⟩
  ·
   rw[er,if_neg (by simp;omega)]
   unfold zaJ
   rw[if_neg (by rw[List.length_append];omega),e1,et]
   simp only
   rw[if_neg (by simp),e2,es]
   simp only
   rw[if_pos (by omega)]
  ·
   rw[er,if_neg (by simp)]
   unfold zaJ
   rw[if_neg (by rw[List.length_append];omega),e1,et]
   simp only
   rw[if_neg (by simp),e2,es]
   simp only
   rw[if_neg (by simp),if_pos (by rw[List.length_append];omega)]
  ·
   rw[er,if_pos rfl]
   unfold zaJ
   rw[if_neg (by rw[List.length_append];omega),e1,et]
   simp only
   rw[if_neg (by simp),e2,es]
   simp only
   rw[if_neg (by simp),if_neg (by rw[List.length_append];omega)]
   unfold Rec.shift
   simp only[Nat.add_assoc]
theorem zou {l:List UInt8}(r:List UInt8){i j:Nat}(h:j≤l.length)(hij:i≤j):zbx (l++r) i j=zbx l i j:=by
 unfold zbx
 rw[List.drop_append_of_le_length (by omega),List.take_append_of_le_length (by rw[List.length_drop];omega)]
theorem zg4 (p l:List UInt8)(i j:Nat):zbx (p++l) (p.length+i) (p.length+j)=zbx l i j:=by
 unfold zbx
 have e1:(p++l).drop (p.length+i)=l.drop i:=by rw[List.drop_append];simp
 rw[e1,Nat.add_sub_add_left]
theorem zix (fs:List Fld)(p l:List UInt8){i:Nat}(h:(zao fs l i).2.2.2=0) :
  zao fs (p++l) (p.length+i)=(Rec.shift p.length (zao fs l i).1,(zao fs l i).2.1,(zao fs l i).2.2.1,0):=by
 have h1:=(zk5 h).2.2.2.1
 have hs:=znr p l i
 rw[if_pos h1] at hs
 obtain⟨r,er⟩:∃ r,zaJ l i=(r,0):=⟨(zaJ l i).1,by rw[←h1]⟩
 rw[er] at hs
 obtain⟨r1,r2,r3,r4,r5⟩:=r
 have h2:∀ (L:List UInt8) (j:Nat) (q:Rec),zaJ L j=(q,0)→zao fs L j=if zae fs q.number<0 then (q,-1,false,0) else
   if ((fs.getD (zae fs q.number).toNat .zero).rep&&zac (fs.getD (zae fs q.number).toNat .zero).kind&&decide (q.wire=2))=true then (q,zae fs q.number,true,0) else
   if zaM (fs.getD (zae fs q.number).toNat .zero).kind=false∨zas (fs.getD (zae fs q.number).toNat .zero).kind≠q.wire then (.none,0,false,6) else (q,zae fs q.number,false,0):=by
  intro L j q hq
  unfold zao
  rw[hq]
  rfl
 rw[h2 _ _ _ er] at h ⊢
 rw[h2 _ _ _ hs]
 unfold Rec.shift
 simp only at h ⊢
 by_cases g1:zae fs r1<0
 ·
  rw[if_pos g1,if_pos g1]
 rw[if_neg g1] at h ⊢
 rw[if_neg g1]
 by_cases g2:((fs.getD (zae fs r1).toNat .zero).rep&&zac (fs.getD (zae fs r1).toNat .zero).kind&&decide (r2=2))=true
 ·
  rw[if_pos g2,if_pos g2]
 rw[if_neg g2] at h ⊢
 rw[if_neg g2]
 by_cases g3:zaM (fs.getD (zae fs r1).toNat .zero).kind=false∨zas (fs.getD (zae fs r1).toNat .zero).kind≠r2
 ·
  rw[if_pos g3] at h;simp at h
 ·
  rw[if_neg g3,if_neg g3]
theorem zma {fs:List Fld}{l:List UInt8}{i:Nat}(h:(zao fs l i).2.2.2=0):(zao fs l i).1.at'≤(zao fs l i).1.to∧(zao fs l i).1.to≤l.length:=by
 rcases zbC fs l i with ⟨c,hc,e,-⟩|⟨r,h1,h2,h3,h4,-,e|⟨k,run,-,e,-⟩⟩
 ·
  rw[e] at h;exact absurd h hc
 ·
  rw[e];exact⟨h3,h4⟩
 ·
  rw[e];exact⟨h3,h4⟩
theorem zmb {rec:Nat→List UInt8→Nat × Nat}{deep:Bool}{fs:List Fld}{l l':List UInt8}{v v':Rec × Int × Bool × Nat}(hk:v'.2.1=v.2.1)(hr:v'.2.2.1=v.2.2.1)(hp:zbx l' v'.1.at' v'.1.to=zbx l v.1.at' v.1.to) :
  (zgW rec deep fs l' v').2=(zgW rec deep fs l v).2:=by
 unfold zgW
 rw[hk,hr,hp]
 simp only
 repeat' split
 all_goals rfl
theorem ze8 (s:List Mes)(d m:Nat)(p l:List UInt8):∀ (n i:Nat),l.length≤n+i→(zgX s d m l i).2=0→(zgX s d m (p++l) (p.length+i)).2=0
 | 0,i,hn,_=>by rw[zdj,if_pos (by rw[List.length_append];omega)]
 | n+1,i,hn,h=>by
  rw[zdj] at h ⊢
  by_cases hi:l.length≤i
  ·
   rw[if_pos (by rw[List.length_append];omega)]
  rw[if_neg hi] at h
  rw[if_neg (by rw[List.length_append];omega)]
  by_cases hc:(zao (s.getD m .zero).fields l i).2.2.2=0
  ·
   rw[if_neg (by omega)] at h
   rw[zix _ p l hc]
   rw[if_neg (by simp)]
   have hv:=zmb (rec:=zlZ s d) (deep:=decide (d=0)) (fs:=(s.getD m .zero).fields) (l:=l) (l':=p++l) (v:=zao (s.getD m .zero).fields l i) (v':=(Rec.shift p.length (zao (s.getD m .zero).fields l i).1,(zao (s.getD m .zero).fields l i).2.1,(zao (s.getD m .zero).fields l i).2.2.1,0)) rfl rfl (zg4 p l _ _)
   by_cases hx:(zgW (zlZ s d) (decide (d=0)) (s.getD m .zero).fields l (zao (s.getD m .zero).fields l i)).2=0
   ·
    rw[if_neg (by omega)] at h
    rw[hv,if_neg (by omega)]
    have hto:=zdQ _ _ _ hc
    exact ze8 s d m p l n _ (by omega) h
   ·
    rw[if_pos hx] at h;exact absurd h hx
  ·
   rw[if_pos hc] at h;exact absurd h hc
theorem ziy (s:List Mes)(d m:Nat)(p l:List UInt8)(hl:(zgX s d m l 0).2=0):∀ (n i:Nat),p.length≤n+i→i≤p.length→(zgX s d m p i).2=0→(zgX s d m (p++l) i).2=0
 | 0,i,hn,hi,_=>by
  obtain rfl:i=p.length:=by omega
  have:=ze8 s d m p l l.length 0 (by omega) hl
  exact this
 | n+1,i,hn,hi,h=>by
  by_cases hi2:p.length≤i
  ·
   obtain rfl:i=p.length:=by omega
   exact ze8 s d m p l l.length 0 (by omega) hl
  rw[zdj] at h ⊢
  rw[if_neg hi2] at h
  rw[if_neg (by rw[List.length_append];omega)]
  by_cases hc:(zao (s.getD m .zero).fields p i).2.2.2=0
  ·
   rw[if_neg (by omega)] at h
   rw[zl9 _ l hc]
   rw[if_neg (by omega)]
   have hb:=zma hc
   have hv:=zmb (rec:=zlZ s d) (deep:=decide (d=0)) (fs:=(s.getD m .zero).fields) (l:=p) (l':=p++l) (v:=zao (s.getD m .zero).fields p i) (v':=zao (s.getD m .zero).fields p i) rfl rfl (zou l hb.2 hb.1)
   by_cases hx:(zgW (zlZ s d) (decide (d=0)) (s.getD m .zero).fields p (zao (s.getD m .zero).fields p i)).2=0
   ·
    rw[if_neg (by omega)] at h
    rw[hv,if_neg (by omega)]
    have hto:=zdQ _ _ _ hc
    exact ziy s d m p l hl n _ (by omega) hto.2 h
   ·
    rw[if_pos hx] at h;exact absurd h hx
  ·
   rw[if_pos hc] at h;exact absurd h hc
theorem zla {s:List Mes}{d m:Nat}{p l:List UInt8}(hp:(zdb s d m p).2=0)(hl:(zdb s d m l).2=0):(zdb s d m (p++l)).2=0:=by
 rw[ze0] at *
 exact ziy s d m p l hl p.length 0 (by omega) (by omega) hp
theorem zsn (s:List Mes)(d m:Nat):(zdb s d m []).2=0:=by
 rw[ze0,zdj,if_pos (by simp)]
theorem zec {s:List Mes}{d m:Nat}:∀ {ls:List (List UInt8)},(∀ l∈ls,(zdb s d m l).2=0)→(zdb s d m ls.flatten).2=0
 | [],_=>zsn s d m
 | l::r,h=>by
  rw[List.flatten_cons]
  exact zla (h l (by simp)) (zec fun x hx=>h x (by simp[hx]))
end
section
open Go.RowKit
theorem zov:∀ (l:List UInt8) (i w x n m:Nat),vgo i w l=(x,i+n,0)→n≤m→vgo i w (l.take m)=(x,i+n,0)
 | [],i,w,x,n,m,h,_=>by simp[vgo] at h
 | c::t,i,w,x,n,m,h,hm=>by
  rw[vgo] at h
  by_cases h1:i=9∧1<c.toNat
  ·
   rw[if_pos h1] at h;simp at h
  rw[if_neg h1] at h
  have hn:1≤n:=by
   by_cases h2:c.toNat<128
   ·
    rw[if_pos h2] at h
    have:=congrArg (fun z=>z.2.1) h
    simp at this;omega
   ·
    rw[if_neg h2] at h
    have hlt:=vgo_grow t (i+1) (w+(c.toNat - 128)*128 ^ i) (by rw[h])
    rw[h] at hlt
    simp only at hlt
    omega
  obtain⟨m',rfl⟩:∃ m',m=m'+1:=⟨m - 1,by omega⟩
  rw[List.take_succ_cons,vgo,if_neg h1]
  by_cases h2:c.toNat<128
  ·
   rw[if_pos h2] at h ⊢;exact h
  rw[if_neg h2] at h ⊢
  have e:i+n=i+1+(n - 1):=by omega
  rw[e] at h ⊢
  exact zov t (i+1) _ x (n - 1) m' h (by omega)
where
 vgo_grow:∀ (l:List UInt8) (i w:Nat),(vgo i w l).2.2=0→i≤(vgo i w l).2.1
 | [],i,w,h=>by simp[vgo] at h
 | c::t,i,w,h=>by
  rw[vgo] at h ⊢
  by_cases h1:i=9∧1<c.toNat
  ·
   rw[if_pos h1] at h;simp at h
  rw[if_neg h1] at h ⊢
  by_cases h2:c.toNat<128
  ·
   rw[if_pos h2];simp
  rw[if_neg h2] at h ⊢
  have:=vgo_grow t _ _ h
  omega
theorem zg5 {l:List UInt8}{x n m:Nat}(h:zaO l=(x,n,0))(hm:n≤m):zaO (l.take m)=(x,n,0):=by
 have:=zov l 0 0 x n m (by rw[Nat.zero_add];exact h) hm
 rwa [Nat.zero_add] at this
theorem zpm {l:List UInt8}{k x n m:Nat}(h:zc1 l=(k,x,n,0))(hm:n≤m):zc1 (l.take m)=(k,x,n,0):=by
 unfold zc1 at h ⊢
 by_cases h0:(zaO l).2.2=0
 ·
  rw[if_neg (by omega)] at h
  have hv:zaO l=((zaO l).1,(zaO l).2.1,0):=by rw[←h0]
  by_cases h1:536870911<(zaO l).1 / 8∨zcg ((zaO l).1 / 8:Nat) ((zaO l).1 % 8:Nat)=false
  ·
   rw[if_pos h1] at h;simp at h
  ·
   rw[if_neg h1] at h
   have hn:(zaO l).2.1=n:=congrArg (fun z=>z.2.2.1) h
   rw[zg5 hv (by omega)]
   simp only
   rw[if_neg (by simp),if_neg h1]
   exact h
 ·
  rw[if_pos h0] at h
  exact absurd (congrArg (fun z=>z.2.2.2) h) h0
theorem zpn {wire:Nat}{l:List UInt8}{a m j:Nat}(h:zcH wire l=(a,m,0))(hj:a+m≤j):zcH wire (l.take j)=(a,m,0):=by
 unfold zcH at h ⊢
 by_cases h0:wire=0
 ·
  rw[if_pos h0] at h ⊢
  have e1:(zaO l).2.2=0:=congrArg (fun z=>z.2.2) h
  have e2:(zaO l).2.1=m:=congrArg (fun z=>z.2.1) h
  have hv:zaO l=((zaO l).1,(zaO l).2.1,0):=by rw[←e1]
  rw[zg5 hv (by omega)]
  rw[e1] at h;exact h
 rw[if_neg h0] at h ⊢
 by_cases h1:wire=1
 ·
  rw[if_pos h1] at h ⊢;exact h
 rw[if_neg h1] at h ⊢
 by_cases h5:wire=5
 ·
  rw[if_pos h5] at h ⊢;exact h
 rw[if_neg h5] at h ⊢
 have e1:(zaO l).2.2=0:=congrArg (fun z=>z.2.2) h
 have e2:(zaO l).2.1=a:=congrArg (fun z=>z.1) h
 have hv:zaO l=((zaO l).1,(zaO l).2.1,0):=by rw[←e1]
 rw[zg5 hv (by omega)]
 rw[e1] at h;exact h
theorem zpo {l:List UInt8}{i:Nat}{r:Rec}(h:zaJ l i=(r,0)):∃ r':Rec,zaJ (zbx l i r.to) 0=(r',0)∧r'.number=r.number∧r'.to=(zbx l i r.to).length:=by
 rcases zbB l i with ⟨hi,er⟩|⟨hi,c,et,hc,er⟩|⟨hi,k,x,n,et,h1,h2,h3,h4,h5,h6,hcs⟩
 ·
  rw[er] at h;simp at h
 ·
  rw[er] at h;simp at h;omega
 ·
  rcases hcs with ⟨a,m,c,es,hc,-,-,er⟩|⟨a,m,es,-,-,-,-,er⟩|⟨a,m,es,g1,g2,g3,er⟩
  ·
   rw[er] at h;simp at h;omega
  ·
   rw[er] at h;simp at h
  ·
   rw[er] at h
   injection h with h _
   subst h
   simp only
   have hlen:(zbx l i (i+n+a+m)).length=n+a+m:=by rw[zol _ _ _ (by omega) (by omega)];omega
   have e1:zbx l i (i+n+a+m)=(l.drop i).take (n+a+m):=by unfold zbx;congr 1;omega
   have et':zc1 (zbx l i (i+n+a+m))=(k,x,n,0):=by rw[e1];exact zpm et (by omega)
   have e2:(zbx l i (i+n+a+m)).drop n=(l.drop (i+n)).take (a+m):=by rw[e1,List.drop_take,List.drop_drop];congr 1;omega
   have es':zcH x ((zbx l i (i+n+a+m)).drop n)=(a,m,0):=by rw[e2];exact zpn es (by omega)
   refine⟨⟨k,x,0,n+a,n+a+m⟩,?_,rfl,hlen.symm⟩
   unfold zaJ
   rw[if_neg (by rw[hlen];omega),List.drop_zero,et']
   simp only[Nat.zero_add]
   rw[if_neg (by simp),es']
   simp only
   rw[if_neg (by simp),hlen,if_neg (by omega)]
theorem ziz (k:Int)(x:Nat):zaE k (zaE k x)=zaE k x:=by
 unfold zaE
 by_cases h1:k=1∨k=8
 ·
  rw[if_pos h1,if_pos h1];unfold w32;(repeat' split) <;> omega
 rw[if_neg h1,if_neg h1]
 by_cases h2:k=7
 ·
  rw[if_pos h2,if_pos h2];(repeat' split) <;> omega
 rw[if_neg h2,if_neg h2]
 by_cases h3:k=3∨k=5∨k=9∨k=10∨k=11
 ·
  rw[if_pos h3,if_pos h3];omega
 rw[if_neg h3,if_neg h3]
theorem ziA (k:Int)(l:List UInt8):zaE k (zdd k l).1=(zdd k l).1:=by
 unfold zdd
 split
 ·
  exact ziz _ _
 ·
  show zaE k 0=0
  unfold zaE w32
  (repeat' split) <;> omega
end
section
open Go.RowKit
theorem zcr {α:Type}(f:Fld)(l:List α){x:α}(h:x∈counts f l):x∈l:=by
 unfold counts at h
 split at h
 ·
  exact h
 ·
  exact zj1 l h
theorem zj2 {α:Type}{f:Fld}(hf:f.rep=false)(l:List α):(counts f l).length≤1:=by
 unfold counts
 rw[if_neg (by simp[hf])]
 unfold zbn
 rw[List.length_drop];omega
theorem zpp {f:Fld}{l:List UInt8}{x:VW}(h:x.run=false):(zam f l x).length≤1:=by
 unfold zam
 rw[if_neg (by simp[h])]
 split <;> simp
theorem zpq {f:Fld}{l:List UInt8}{x:VW}:(zaI f l x).length≤1:=by
 unfold zaI
 split <;> simp
theorem zow {α β:Type}(g:α→List β):∀ (l:List α),l.length≤1→(∀ x∈l,(g x).length≤1)→(l.flatMap g).length≤1
 | [],_,_=>by simp
 | [x],_,h=>by simpa using h x (by simp)
 | _::_::_,h,_=>by simp at h
theorem zns {f:Fld}{l:List UInt8}{x:VW}{w:Nat}(h:w∈zam f l x):zaE f.kind w=w:=by
 unfold zam at h
 split at h
 ·
  unfold zce at h
  split at h
  ·
   unfold ziu at h
   obtain⟨y,-,rfl⟩:=List.mem_map.1 h
   exact ziA _ _
  ·
   simp at h
 ·
  split at h
  ·
   simp at h;subst h;exact ziA _ _
  ·
   simp at h
theorem zew {α β:Type}(g:α→List β)(l:List α)(h:∀ x∈l,g x=[]):l.flatMap g=[]:=by
 rw[List.flatMap_eq_nil_iff];exact h
structure zbz (R:Int→List UInt8→Prop)(f:Fld)(l:List UInt8)(xs:List VW):Prop where
 kind:zaM f.kind=true
 run:∀ x∈xs,x.run=true→f.rep=true∧zac f.kind=true
 text:f.kind=15→∀ x∈xs,zbw (zah l x)=(zah l x).length
 sub:f.kind=17→(∀ x∈xs,R f.of (zah l x))∧(f.rep=false→xs≠[]→R f.of (xs.flatMap (zah l)))
theorem znt {α:Type}{R:Int→List UInt8→Prop}{B:Int→α→Bool}{sub:Int→List UInt8→List α}{f:Fld}{l:List UInt8}{xs:List VW}(h:zbz R f l xs)
  (hR:∀ b,R f.of b→∃ y,sub f.of b=[y]∧B f.of y=true) (hm:0<many (zay sub f l xs)):zcB B f (zay sub f l xs)=true:=by
 have hrun:f.rep=false∨zac f.kind=false→∀ x∈xs,x.run=false:=by
  intro h1 x hx
  cases hr:x.run with
  | false=>rfl
  | true =>
   obtain⟨h2,h3⟩:=h.run x hx hr
   rcases h1 with h1|h1
   ·
    rw[h2] at h1;cases h1
   ·
    rw[h3] at h1;cases h1
 have hW:zac f.kind=false→(zay sub f l xs).words=[]:=by
  intro hk
  refine zew _ _ fun x hx=>?_
  unfold zam
  rw[if_neg (by rw[hrun (.inr hk) x (zcr f xs hx)];decide),if_neg (by rw[hk];decide)]
 have hT:zac f.kind=true∨f.kind=17→(zay sub f l xs).texts=[]:=by
  intro hk
  unfold zay
  simp only
  by_cases h17:f.kind=17
  ·
   rw[if_pos h17]
  ·
   rw[if_neg h17]
   refine zew _ _ fun x hx=>?_
   unfold zaI
   rw[if_pos (.inr (by rcases hk with hk|hk;exact hk;exact absurd hk h17))]
 have hS:f.kind≠17→(zay sub f l xs).subs=[]:=by
  intro hk
  unfold zay
  simp only
  rw[if_neg hk]
 have hone:f.rep=false→many (zay sub f l xs)≤1:=by
  intro hr
  unfold many
  cases hk:zac f.kind with
  | true =>
   have h17:f.kind≠17:=by intro e;rw[e] at hk;simp[zac] at hk
   rw[hT (.inl hk),hS h17]
   have:=zow (zam f l) (counts f xs) (zj2 hr xs) (fun x hx=>zpp (hrun (.inl hr) x (zcr f xs hx)))
   simpa [zay] using this
  | false =>
   rw[hW hk]
   by_cases h17:f.kind=17
   ·
    rw[hT (.inr h17)]
    unfold zay
    simp only
    rw[if_pos h17,if_neg (by simp[hr])]
    split
    ·
     simp
    ·
     rename_i hx
     obtain⟨y,e,-⟩:=hR _ ((h.sub h17).2 hr hx)
     rw[e];simp
   ·
    rw[hS h17]
    have:=zow (zaI f l) (counts f xs) (zj2 hr xs) (fun x _=>zpq)
    unfold zay
    simp only
    rw[if_neg h17]
    simpa using this
 unfold zcB
 have hmany:(zay sub f l xs).words.length+(zay sub f l xs).texts.length+(zay sub f l xs).subs.length=many (zay sub f l xs):=rfl
 rw[if_neg (by
  rw[hmany]
  rintro (h1|⟨h1,h2⟩)
  ·
   omega
  ·
   have:=hone h2;omega)]
 cases hk:zac f.kind with
 | true =>
  have h17:f.kind≠17:=by intro e;rw[e] at hk;simp[zac] at hk
  rw[if_pos rfl,hT (.inl hk),hS h17]
  simp only[List.length_nil,and_self,decide_true,Bool.true_and,List.all_eq_true,decide_eq_true_eq]
  intro w hw
  obtain⟨x,-,hx⟩:=List.mem_flatMap.1 (show w∈(counts f xs).flatMap (zam f l) from hw)
  exact zns hx
 | false =>
  rw[if_neg (by decide),hW hk]
  by_cases h17:f.kind=17
  ·
   rw[if_pos h17,hT (.inr h17)]
   simp only[List.length_nil,and_self,decide_true,Bool.true_and,List.all_eq_true]
   intro y hy
   unfold zay at hy
   simp only at hy
   rw[if_pos h17] at hy
   split at hy
   ·
    obtain⟨x,hx,hxy⟩:=List.mem_flatMap.1 hy
    obtain⟨z,e,hz⟩:=hR _ ((h.sub h17).1 x hx)
    rw[e] at hxy
    simp at hxy;subst hxy;exact hz
   ·
    rename_i hr
    split at hy
    ·
     simp at hy
    ·
     rename_i hx
     obtain⟨z,e,hz⟩:=hR _ ((h.sub h17).2 (by simpa using hr) hx)
     rw[e] at hy
     simp at hy;subst hy;exact hz
  ·
   rw[if_neg h17,hS h17]
   by_cases h15:f.kind=15
   ·
    rw[if_pos h15]
    simp only[List.length_nil,and_self,decide_true,Bool.true_and,List.all_eq_true,decide_eq_true_eq]
    intro t ht
    unfold zay at ht
    simp only at ht
    rw[if_neg h17] at ht
    obtain⟨x,hx,hxt⟩:=List.mem_flatMap.1 ht
    unfold zaI at hxt
    split at hxt
    ·
     simp at hxt
    ·
     simp at hxt;subst hxt
     exact h.text h15 x (zcr f xs hx)
   ·
    rw[if_neg h15]
    have h16:f.kind=16:=by
     have h1:=h.kind
     unfold zaM at h1
     unfold zac at hk
     simp at h1 hk
     omega
    simp[h16]
end
section
open Go.RowKit
theorem zqZ {n:Nat}{nm nu:Bool}{f:Fld}(h:zaN n nm nu f=0):nu=false∧zeN f.number=true:=by
 unfold zaN at h
 by_cases h1:zaY f.name=false
 ·
  rw[if_pos h1] at h;cases h
 rw[if_neg h1] at h
 cases nm with
 | true=>simp at h
 | false =>
  rw[if_neg (by decide)] at h
  cases h2:zeN f.number with
  | false=>rw[if_pos h2] at h;cases h
  | true =>
   rw[if_neg (by rw[h2];decide)] at h
   cases nu with
   | true=>simp at h
   | false=>exact⟨rfl,rfl⟩
theorem zox {n:Nat}{fs:List Fld}:∀ (k j:Nat),j=fs.length - k→zaD n (fs.take k) (fs.drop k) k=none→∀ i,k≤i→i<fs.length→zb2 (fs.take i) (fs.getD i .zero).number=false∧zeN (fs.getD i .zero).number=true
 | k,0,hj,_,i,h1,h2=>by omega
 | k,j+1,hj,h,i,h1,h2=>by
  rw[zfH n fs k (by omega)] at h
  by_cases hc:zaN n (zbI (fs.take k) (fs.getD k .zero).name) (zb2 (fs.take k) (fs.getD k .zero).number) (fs.getD k .zero)=0
  ·
   rw[if_pos hc] at h
   by_cases hik:i=k
   ·
    subst hik;exact zqZ hc
   ·
    exact zox (k+1) j (by omega) h i (by omega) h2
  ·
   rw[if_neg hc] at h;cases h
theorem zcl {s:List Mes}(h:zaw s=true)(m:Nat)(hm:m<s.length)(i:Nat)(hi:i<(s.getD m .zero).fields.length) :
  zb2 ((s.getD m .zero).fields.take i) ((s.getD m .zero).fields.getD i .zero).number=false∧zeN ((s.getD m .zero).fields.getD i .zero).number=true:=by
 have h0:(zbJ s).2.2=0:=of_decide_eq_true h
 unfold zbJ at h0
 by_cases h1:s.length=0∨100<s.length
 ·
  rw[if_pos h1] at h0;simp at h0
 rw[if_neg h1] at h0
 have hmem:s.getD m .zero∈s:=by
  have:s.getD m .zero=s[m]:=by simp[List.getD,hm]
  rw[this];exact List.getElem_mem hm
 obtain⟨h2,-,-⟩:=zci s [] 0 h0 _ hmem
 exact zox 0 _ rfl (by simpa using h2) i (by omega) hi
theorem zgv (p:Fld→Bool)(fs:List Fld)(q:Nat)(hq:q<fs.length)(hp:p (fs.getD q .zero)=true)(hb:∀ j,j<q→p (fs.getD j .zero)=false) :
  ∀ (j k:Nat),k+j=q→zai p (fs.drop k) k=(q:Int)
 | 0,k,h=>by
  obtain rfl:k=q:=by omega
  rw[zgT p fs k hq,hp,if_pos rfl]
 | j+1,k,h=>by
  rw[zgT p fs k (by omega),hb k (by omega),if_neg (by decide)]
  exact zgv p fs q hq hp hb j (k+1) (by omega)
structure zq0 (fs:List Fld):Prop where
 met:∀ i,i<fs.length→zb2 (fs.take i) (fs.getD i .zero).number=false
 pos:∀ i,i<fs.length→1≤(fs.getD i .zero).number
theorem zbs {s:List Mes}(h:zaw s=true)(m:Nat)(hm:m<s.length):zq0 (s.getD m .zero).fields:=
 ⟨fun i hi=>(zcl h m hm i hi).1,fun i hi=>(of_decide_eq_true (zcl h m hm i hi).2).1⟩
theorem zq0.ne {fs:List Fld}(h:zq0 fs){i j:Nat}(hij:i<j)(hj:j<fs.length):(fs.getD i .zero).number≠(fs.getD j .zero).number:=by
 intro e
 have h1:=h.met j hj
 unfold zb2 at h1
 rw[List.any_eq_false] at h1
 have hi:i<fs.length:=by omega
 have h2:=h1 (fs.getD i .zero) (by
  have e2:fs.getD i .zero=fs[i]:=by simp[List.getD,hi]
  rw[e2]
  exact List.mem_take_iff_getElem.2 ⟨i,by omega,rfl⟩)
 exact h2 (decide_eq_true e)
theorem zq0.at {fs:List Fld}(h:zq0 fs){q:Nat}(hq:q<fs.length):zae fs (fs.getD q .zero).number=q:=by
 have:=zgv (fun f=>decide (f.number=(fs.getD q .zero).number)) fs q hq (decide_eq_true rfl) (fun j hj=>decide_eq_false (h.ne hj hq)) q 0 (by omega)
 rw[List.drop_zero] at this
 exact this
theorem zq0.lt {fs:List Fld}(h:zq0 fs){i j:Int}(hi:0≤i∧i<fs.length)(hj:0≤j∧j<fs.length)(ha:zck fs i j):zdc fs i<zdc fs j:=by
 rcases ha with ha|⟨h1,h2⟩
 ·
  exact ha
 ·
  exact absurd h1 (h.ne (i:=i.toNat) (j:=j.toNat) (by omega) (by omega))
theorem zoy {α:Type}{F:Fld→Val α→Bool}{fs:List Fld}(h:zq0 fs){FV:Int→Val α}(hn:∀ i,(FV i).num=zdc fs i) :
  ∀ (ords:List Int) (last:Int),(∀ i∈ords,(0≤i∧i<fs.length)∧last<zdc fs i∧(0<many (FV i)→F (fs.getD i.toNat .zero) (FV i)=true))→ords.Pairwise (zck fs) →
   zfD F fs ((ords.map FV).filter fun v=>decide (0<many v)) last=true
 | [],_,_,_=>rfl
 | i::r,last,h1,h2=>by
  obtain⟨g1,g2,g3⟩:=h1 i (by simp)
  rw[List.pairwise_cons] at h2
  rw[List.map_cons,List.filter_cons]
  have ih:∀ last',last'≤zdc fs i→zfD F fs ((r.map FV).filter fun v=>decide (0<many v)) last'=true:=fun last' hl=>by
   refine zoy h hn r last' (fun j hj=>?_) h2.2
   obtain⟨k1,k2,k3⟩:=h1 j (by simp[hj])
   have:=h.lt g1 k1 (h2.1 j hj)
   exact⟨k1,by omega,k3⟩
  by_cases hm:0<many (FV i)
  ·
   rw[if_pos (by simpa using hm),zfD,hn]
   have hat:zae fs (zdc fs i)=i:=by
    unfold zdc
    rw[h.at (by omega)];omega
   rw[hat,if_neg]
   ·
    exact ih _ (Int.le_refl _)
   ·
    rintro (e|e|e)
    ·
     omega
    ·
     omega
    ·
     rw[g3 hm] at e;cases e
  ·
   rw[if_neg (by simpa using hm)]
   exact ih _ (by omega)
theorem zea.unknown {s:List Mes}{d m:Nat}{l:List UInt8}{x:VW}(h:zea s d m l x)(hk:x.k<0):zaJ l x.r.start=(x.r,0)∧zae (s.getD m .zero).fields x.r.number<0:=by
 obtain⟨j,hj⟩:=h.look
 rcases zbC (s.getD m .zero).fields l j with ⟨c,hc,e,-⟩|⟨r,h1,h2,h3,h4,h5,e|⟨k,run,hk',e,-,h6,h7⟩⟩
 ·
  rw[e] at hj
  exact absurd (congrArg (fun t=>t.2.2.2) hj) (by simpa using hc)
 ·
  have e1:r=x.r:=by rw[e] at hj;exact congrArg Prod.fst hj
  subst e1
  rw[h1]
  refine⟨h5,?_⟩
  refine Decidable.byContradiction fun hn=>?_
  unfold zao at e
  rw[h5,if_neg (by simp),if_neg hn] at e
  simp only at e
  split at e
  ·
   have:=congrArg (fun t=>t.2.1) e;simp only at this;omega
  ·
   split at e
   ·
    have:=congrArg (fun t=>t.2.2.2) e;simp at this
   ·
    have:=congrArg (fun t=>t.2.1) e;simp only at this;omega
 ·
  rw[e] at hj
  have:=congrArg (fun t=>t.2.1) hj
  simp only at this
  omega
theorem zbS {all:List VW}{i:Int}{x:VW}(h:x∈zak all i):x∈all∧x.k=i:=by
 unfold zak at h
 rw[List.mem_filter] at h
 exact⟨h.1,of_decide_eq_true h.2⟩
def zpr (s:List Mes)(d:Nat)(o:Int)(b:List UInt8):Prop:=∃ d',d=d'+1∧(zdb s d' o.toNat b).2=0
theorem zfr {s:List Mes}(hs:zaw s=true){d m:Nat}{l:List UInt8}(hm:m<s.length)(h:(zdb s d m l).2=0){q:Nat}(hq:q<(s.getD m .zero).fields.length) :
  zbz (zpr s d) ((s.getD m .zero).fields.getD q .zero) l (zak (zbA (s.getD m .zero).fields l).1 q):=by
 have hv:=(zk8 h).2
 have hf:=zco hs m hm _ (zfn (s.getD m .zero).fields .zero hq)
 have hx:∀ x∈zak (zbA (s.getD m .zero).fields l).1 q,zea s d m l x∧x.k=q:=fun x hx=>⟨hv x (zbS hx).1,(zbS hx).2⟩
 refine⟨hf.1,fun x h1 h2=>?_,fun h15 x h1=>(hx x h1).1.text (hx x h1).2 h15,fun h17=>⟨fun x h1=>(hx x h1).1.sub (hx x h1).2 h17,fun _ hne=>?_⟩⟩
 ·
  obtain⟨-,-,-,h3⟩:=(hx x h1).1.facts
  rcases h3 with ⟨-,h3⟩|⟨k,h3,-,h4,-⟩
  ·
   rw[h3] at h2;cases h2
  ·
   have:k=q:=by have:=(hx x h1).2;omega
   subst this
   exact h4 h2
 ·
  obtain⟨x0,hx0⟩:=List.exists_mem_of_ne_nil _ hne
  obtain⟨d',rfl,-⟩:=(hx x0 hx0).1.sub (hx x0 hx0).2 h17
  refine⟨d',rfl,?_⟩
  rw[List.flatMap_def]
  refine zec fun b hb=>?_
  obtain⟨x,hx1,rfl⟩:=List.mem_map.1 hb
  obtain⟨d2,e2,h2⟩:=(hx x hx1).1.sub (hx x hx1).2 h17
  obtain rfl:d2=d':=by omega
  exact h2
theorem zfs {s:List Mes}(hs:zaw s=true){m:Nat}(hm:m<s.length){q:Nat}(hq:q<(s.getD m .zero).fields.length) :
  0≤((s.getD m .zero).fields.getD q .zero).of∧((s.getD m .zero).fields.getD q .zero).of<s.length:=by
 obtain⟨-,h1,h2,-⟩:=zco hs m hm _ (zfn (s.getD m .zero).fields .zero hq)
 by_cases h17:((s.getD m .zero).fields.getD q .zero).kind=17
 ·
  exact h1 h17
 ·
  have:=h2 h17
  have:=(zpa hs).1
  omega
theorem zfJ {s:List Mes}(hs:zaw s=true)(d:Nat)(hrec:∀ d',d=d'+1→∀ (m:Nat) (l:List UInt8),m<s.length→(zdb s d' m l).2=0→zav s (d'+1) (m:Int) (tof s d' m l)=true)
  (m:Nat) (l:List UInt8) (hm:m<s.length) (h:(zdb s d m l).2=0):zav s (d+1) (m:Int) (tof s d m l)=true:=by
 rw[zf4]
 show (if (m:Int)<0∨(s.length:Int)≤(m:Int) then false else zfD (zcB (zav s d)) (s.getD (m:Int).toNat .zero).fields (zdO (zdz s d) (s.getD m .zero).fields l).vals 0&&(zdO (zdz s d) (s.getD m .zero).fields l).unk.all (zbf (s.getD (m:Int).toNat .zero).fields))=true
 rw[if_neg (by omega),Int.toNat_natCast,Bool.and_eq_true]
 refine⟨zoy (zbs hs m hm) (FV:=fun i=>zay (zdz s d) ((s.getD m .zero).fields.getD i.toNat .zero) l (zak (zbA (s.getD m .zero).fields l).1 i)) (fun i=>rfl) (zaq (s.getD m .zero).fields) 0 (fun i hi=>?_) (zbD _ _).2,?_⟩
 ·
  have hb:=zaH hi
  obtain⟨q,rfl⟩:∃ q:Nat,i=q:=⟨i.toNat,by omega⟩
  have hq:q<(s.getD m .zero).fields.length:=by omega
  refine⟨hb,?_,fun hmn=>?_⟩
  ·
   have:=(zbs hs m hm).pos q hq
   unfold zdc
   rw[Int.toNat_natCast];omega
  ·
   simp only[Int.toNat_natCast] at hmn ⊢
   refine znt (zfr hs hm h hq) (fun b hb=>?_) hmn
   obtain⟨d',rfl,hv⟩:=hb
   have hr:=zfs hs hm hq
   refine⟨_,rfl,?_⟩
   have:=hrec d' rfl ((s.getD m .zero).fields.getD q .zero).of.toNat b (by omega) hv
   rwa [Int.toNat_of_nonneg hr.1] at this
 ·
  rw[List.all_eq_true]
  intro t ht
  obtain⟨x,hx,rfl⟩:=List.mem_map.1 (show t∈((zbA (s.getD m .zero).fields l).1.filter fun x=>decide (x.k<0)).map fun x=>zbx l x.r.start x.r.to from ht)
  rw[List.mem_filter] at hx
  obtain⟨h1,h2⟩:=((zk8 h).2 x hx.1).unknown (of_decide_eq_true hx.2)
  obtain⟨r',h3,h4,h5⟩:=zpo h1
  unfold zbf
  rw[h3]
  simp only[true_and,Bool.and_eq_true,decide_eq_true_eq]
  exact⟨h5,by rw[h4];exact h2⟩
theorem zb7 {s:List Mes}(hs:zaw s=true):∀ (d m:Nat) (l:List UInt8),m<s.length→(zdb s d m l).2=0→zav s (d+1) (m:Int) (tof s d m l)=true
 | 0=>zfJ hs 0 (fun _ h=>by cases h)
 | d+1=>zfJ hs (d+1) (fun d' h=>by
  obtain rfl:d=d':=by omega
  exact zb7 hs d)
end
section
open Go.RowKit
def zc9 (x:VW):Nat:=x.r.to - x.r.start
def zbt (l:List VW):Nat:=(l.map zc9).sum
def zd5 (x:VW):Prop:=1+(x.r.to - x.r.at')≤zc9 x
theorem zh0 (fs:List Fld)(l:List UInt8):∀ (n i:Nat),i≤l.length→zbt (zaB fs l n i).1+i≤l.length∧∀ x∈(zaB fs l n i).1,zd5 x
 | 0,i,hi=>by simp[zaB,zbt];omega
 | n+1,i,hi=>by
  rw[zaB]
  by_cases h:l.length≤i
  ·
   rw[if_pos h];simp[zbt];omega
  rw[if_neg h]
  rcases zbC fs l i with ⟨c,hc,e,-⟩|⟨r,h1,h2,h3,h4,-,hcase⟩
  ·
   rw[e,if_pos hc];simp[zbt];omega
  ·
   obtain⟨k,run,e⟩:∃ k run,zao fs l i=(r,k,run,0):=by
    rcases hcase with e|⟨k,run,-,e,-⟩
    ·
     exact⟨_,_,e⟩
    ·
     exact⟨_,_,e⟩
   rw[e,if_neg (by simp)]
   simp only
   obtain⟨g1,g2⟩:=zh0 fs l n r.to h4
   split
   ·
    simp[zbt];omega
   ·
    refine⟨?_,fun x hx=>?_⟩
    ·
     unfold zbt at g1 ⊢
     rw[List.map_cons,List.sum_cons]
     have:zc9 ⟨r,k,run⟩=r.to - r.start:=rfl
     omega
    ·
     rcases List.mem_cons.1 hx with rfl|hx
     ·
      unfold zd5 zc9;simp only;omega
     ·
      exact g2 x hx
theorem zh1 (a b:List VW):zbt (a++b)=zbt a+zbt b:=by unfold zbt;rw[List.map_append,List.sum_append]
theorem zg6:∀ (all:List VW) (ords:List Int),ords.Nodup→(∀ i∈ords,0≤i)→(ords.map fun i=>zbt (zak all i)).sum+zbt (all.filter fun x=>decide (x.k<0))≤zbt all
 | [],ords,_,_=>by
  have:(ords.map fun i=>zbt (zak [] i)).sum=0:=by
   rw[List.sum_eq_zero_iff_forall_eq_nat]
   intro y hy
   obtain⟨i,-,rfl⟩:=List.mem_map.1 hy
   rfl
  rw[this];simp[zbt]
 | x::r,ords,hn,h0=>by
  have ih:=zg6 r ords hn h0
  have hx:(ords.map fun i=>zbt (zak (x::r) i)).sum≤(ords.map fun i=>zbt (zak r i)).sum+(if x.k∈ords then zc9 x else 0):=by
   clear ih h0
   induction ords with
   | nil=>simp
   | cons i t iht =>
    rw[List.nodup_cons] at hn
    have:=iht hn.2
    have hv:zbt (zak (x::r) i)=(if x.k=i then zc9 x else 0)+zbt (zak r i):=by
     unfold zak
     rw[List.filter_cons]
     by_cases he:x.k=i
     ·
      rw[if_pos (by simpa using he),if_pos he];unfold zbt;rw[List.map_cons,List.sum_cons]
     ·
      rw[if_neg (by simpa using he),if_neg he,Nat.zero_add]
    rw[List.map_cons,List.sum_cons,List.map_cons,List.sum_cons,hv]
    by_cases he:x.k=i
    ·
     have hnt:x.k ∉ t:=by rw[he];exact hn.1
     rw[if_neg hnt] at this
     rw[if_pos he,if_pos (by simp[he])]
     omega
    ·
     rw[if_neg he]
     by_cases ht:x.k∈t
     ·
      rw[if_pos ht] at this
      rw[if_pos (by simp[ht])];omega
     ·
      rw[if_neg ht] at this
      rw[if_neg (by simp[he,ht])];omega
  have hs:zbt (x::r)=zc9 x+zbt r:=by unfold zbt;rw[List.map_cons,List.sum_cons]
  rw[List.filter_cons]
  by_cases hk:x.k<0
  ·
   rw[if_pos (by simpa using hk)]
   have hno:x.k ∉ ords:=fun hm=>by have:=h0 _ hm;omega
   rw[if_neg hno] at hx
   have:zbt (x::r.filter fun x=>decide (x.k<0))=zc9 x+zbt (r.filter fun x=>decide (x.k<0)):=by unfold zbt;rw[List.map_cons,List.sum_cons]
   omega
  ·
   rw[if_neg (by simpa using hk)]
   by_cases hm:x.k∈ords
   ·
    rw[if_pos hm] at hx;omega
   ·
    rw[if_neg hm] at hx;omega
theorem zbi (l:List UInt8)(x:VW):(zah l x).length≤x.r.to - x.r.at':=by unfold zah zbx;rw[List.length_take];omega
theorem zft {α:Type}(g:VW→List α)(W:List α→Nat)(h0:W []=0)(ha:∀ a b,W (a++b)=W a+W b):∀ (xs:List VW),(∀ x∈xs,W (g x)≤zc9 x)→W (xs.flatMap g)≤zbt xs
 | [],_=>by rw[List.flatMap_nil,h0];exact Nat.zero_le _
 | x::r,h=>by
  have ih:=zft g W h0 ha r fun y hy=>h y (by simp[hy])
  have h1:=h x (by simp)
  rw[List.flatMap_cons,ha]
  unfold zbt at ih ⊢
  rw[List.map_cons,List.sum_cons]
  omega
theorem znu:twt []=0:=rfl
theorem ztn (a b:List (List UInt8)):twt (a++b)=twt a+twt b:=by unfold twt;rw[List.map_append,List.sum_append]
theorem zj3 (f:Fld)(xs:List VW):zbt (counts f xs)≤zbt xs:=by
 unfold counts
 split
 ·
  exact Nat.le_refl _
 ·
  unfold zbn
  conv=>rhs;rw[←List.take_append_drop (xs.length - 1) xs,zh1]
  omega
theorem zdA {f:Fld}{l:List UInt8}{x:VW}(h:zd5 x):(zam f l x).length≤zc9 x:=by
 unfold zd5 at h
 unfold zam
 split
 ·
  unfold zce
  split
  ·
   have h1:=zfY (zas f.kind) _ (zah l x) (Nat.le_refl _)
   have h2:=zbi l x
   simp only[ziu,List.length_map]
   omega
  ·
   simp
 ·
  split
  ·
   simp;omega
  ·
   simp
theorem znv {f:Fld}{l:List UInt8}{x:VW}(h:zd5 x):twt (zaI f l x)≤zc9 x:=by
 unfold zd5 at h
 unfold zaI
 split
 ·
  rw[znu];omega
 ·
  have h2:=zbi l x
  simp[twt];omega
theorem zso {xs:List VW}(ht:∀ x∈xs,zd5 x):xs.length≤zbt xs:=by
 induction xs with
 | nil=>simp
 | cons x r ih =>
  have h1:=ht x (by simp)
  have h2:=ih fun y hy=>ht y (by simp[hy])
  unfold zd5 at h1
  unfold zbt at h2 ⊢
  rw[List.map_cons,List.sum_cons,List.length_cons]
  omega
theorem zlb {α:Type}{F:α→Nat}{sub:Int→List UInt8→List α}{f:Fld}{l:List UInt8}{xs:List VW}(hrun:f.kind=17→∀ x∈xs,x.run=false)(ht:∀ x∈xs,zd5 x)
  (hs:∀ b,((sub f.of b).map F).sum≤1+4*b.length) (hm:0<many (zay sub f l xs)):vwt F (zay sub f l xs)≤4*zbt xs:=by
 have hne:xs≠[]:=by
  rintro rfl
  unfold many zay counts zbn at hm
  simp at hm
 have hpos:=zso ht
 have hl:0<xs.length:=List.length_pos_iff.2 hne
 have hc:=zj3 f xs
 have htc:∀ x∈counts f xs,zd5 x:=fun x hx=>ht x (zcr f xs hx)
 have hw:=zft (zam f l) List.length rfl (fun a b=>List.length_append) (counts f xs) fun x hx=>zdA (htc x hx)
 have hx:=zft (zaI f l) twt znu ztn (counts f xs) fun x hx=>znv (htc x hx)
 unfold vwt zay
 simp only
 by_cases h17:f.kind=17
 ·
  rw[if_pos h17,if_pos h17,znu]
  have hw0:((counts f xs).flatMap (zam f l))=[]:=by
   refine zew _ _ fun x hx=>?_
   unfold zam
   rw[if_neg (by rw[hrun h17 x (zcr f xs hx)];decide),if_neg (by rw[h17];decide)]
  rw[hw0]
  have hsum:∀ ys:List VW,(∀ x∈ys,zd5 x)→((ys.flatMap fun x=>sub f.of (zah l x)).map F).sum+ys.length≤4*zbt ys:=by
   intro ys
   induction ys with
   | nil=>simp[zbt]
   | cons x r ih =>
    intro hy
    have h1:=hy x (by simp)
    have h2:=ih fun y h=>hy y (by simp[h])
    have h3:=hs (zah l x)
    have h4:=zbi l x
    unfold zd5 at h1
    unfold zbt at h2 ⊢
    rw[List.flatMap_cons,List.map_append,List.sum_append,List.length_cons,List.map_cons,List.sum_cons]
    omega
  have hlen:∀ ys:List VW,(∀ x∈ys,zd5 x)→(ys.flatMap (zah l)).length+ys.length≤zbt ys:=by
   intro ys
   induction ys with
   | nil=>simp[zbt]
   | cons x r ih =>
    intro hy
    have h1:=hy x (by simp)
    have h2:=ih fun y h=>hy y (by simp[h])
    have h4:=zbi l x
    unfold zd5 at h1
    unfold zbt at h2 ⊢
    rw[List.flatMap_cons,List.length_append,List.length_cons,List.map_cons,List.sum_cons]
    omega
  split
  ·
   have:=hsum xs ht
   simp only[List.length_nil];omega
  ·
   have h1:=hs (xs.flatMap (zah l))
   have h2:=hlen xs ht
   simp only[List.length_nil];omega
 ·
  rw[if_neg h17,if_neg h17]
  have hboth:((counts f xs).flatMap (zam f l)).length+twt ((counts f xs).flatMap (zaI f l))≤2*zbt xs:=by omega
  simp only[List.map_nil,List.sum_nil]
  omega
theorem zgw (fs:List Fld):(zaq fs).Nodup:=by
 have h:=(zbD fs fs.length).2
 refine List.Pairwise.imp (fun {a b} hab=>?_) h
 rintro rfl
 exact zck.asymm _ _ hab hab
theorem zgx {α:Type}(F G:α→Nat)(p:α→Bool):∀ (l:List α),(∀ x∈l,p x=true→F x≤G x)→((l.filter p).map F).sum≤(l.map G).sum
 | [],_=>by simp
 | x::r,h=>by
  have ih:=zgx F G p r fun y hy=>h y (by simp[hy])
  rw[List.filter_cons,List.map_cons,List.sum_cons]
  by_cases hp:p x=true
  ·
   rw[if_pos hp,List.map_cons,List.sum_cons]
   have:=h x (by simp) hp
   omega
  ·
   rw[if_neg hp];omega
theorem zoz (fs:List Fld)(l:List UInt8):∀ (n i:Nat),∀ x∈(zaB fs l n i).1,∀ k:Nat,x.k=k→x.run=true→zac (fs.getD k .zero).kind=true
 | 0,i=>by simp[zaB]
 | n+1,i=>by
  rw[zaB]
  by_cases h:l.length≤i
  ·
   rw[if_pos h];simp
  rw[if_neg h]
  by_cases hc:(zao fs l i).2.2.2=0
  ·
   rw[if_neg (by omega)]
   have ih:=zoz fs l n (zao fs l i).1.to
   simp only
   split
   ·
    simp
   ·
    intro x hx
    rcases List.mem_cons.1 hx with rfl|hx
    ·
     intro k hk hr
     simp only at hk hr
     rcases zbC fs l i with ⟨c,hc',e,-⟩|⟨r,h1,h2,h3,h4,-,e|⟨k',run,-,e,-,h6,-⟩⟩
     ·
      rw[e] at hc;exact absurd hc hc'
     ·
      rw[e] at hr;simp at hr
     ·
      rw[e] at hk hr
      simp only at hk hr
      obtain rfl:k'=k:=by omega
      exact (h6 hr).2.1
    ·
     exact ih x hx
  ·
   rw[if_pos hc];simp
theorem zoA (g:Int→Nat):∀ (l:List Int),(l.map fun i=>4*g i).sum=4*(l.map g).sum
 | []=>by simp
 | x::r=>by rw[List.map_cons,List.sum_cons,zoA g r,List.map_cons,List.sum_cons];omega
theorem zhu {α:Type}(F:α→Nat){sub:Int→List UInt8→List α}(fs:List Fld)(l:List UInt8)(hs:∀ o b,((sub o b).map F).sum≤1+4*b.length) :
  twt (zdO sub fs l).unk+((zdO sub fs l).vals.map (vwt F)).sum≤4*l.length:=by
 obtain⟨h1,h2⟩:=zh0 fs l l.length 0 (Nat.zero_le _)
 have h3:=zoz fs l l.length 0
 have h4:=zg6 (zbA fs l).1 (zaq fs) (zgw fs) (fun i hi=>(zaH hi).1)
 have hall:zbt (zbA fs l).1≤l.length:=by unfold zbA;omega
 have hunk:twt (zdO sub fs l).unk≤2*zbt ((zbA fs l).1.filter fun x=>decide (x.k<0)):=by
  unfold zdO twt zbt
  simp only[List.map_map]
  have:∀ (ys:List VW),(∀ x∈ys,zd5 x)→(ys.map ((fun t=>1+t.length) ∘ fun x=>zbx l x.r.start x.r.to)).sum≤2*(ys.map zc9).sum:=by
   intro ys
   induction ys with
   | nil=>simp
   | cons x r ih =>
    intro hy
    have g1:=hy x (by simp)
    have g2:=ih fun y h=>hy y (by simp[h])
    have g3:(zbx l x.r.start x.r.to).length≤zc9 x:=by unfold zbx zc9;rw[List.length_take];omega
    unfold zd5 at g1
    rw[List.map_cons,List.sum_cons,List.map_cons,List.sum_cons]
    simp only[Function.comp]
    omega
  exact this _ fun x hx=>h2 x (List.mem_filter.1 hx).1
 have hval:((zdO sub fs l).vals.map (vwt F)).sum≤4*((zaq fs).map fun i=>zbt (zak (zbA fs l).1 i)).sum:=by
  rw[←zoA]
  unfold zdO
  simp only
  rw[List.filter_map,List.map_map]
  refine zgx _ _ _ _ fun i hi hp=>?_
  simp only[Function.comp] at hp ⊢
  have hb:=zaH hi
  obtain⟨q,rfl⟩:∃ q:Nat,i=q:=⟨i.toNat,by omega⟩
  simp only[Int.toNat_natCast] at hp ⊢
  refine zlb (fun h17 x hx=>?_) (fun x hx=>h2 x (zbS hx).1) (fun b=>hs _ b) (of_decide_eq_true hp)
  cases hr:x.run with
  | false=>rfl
  | true =>
   have:=h3 x (zbS hx).1 q (zbS hx).2 hr
   rw[h17] at this
   simp[zac] at this
 omega
theorem zcs (s:List Mes):∀ (d m:Nat) (l:List UInt8),mwt (d+1) (tof s d m l)≤1+4*l.length
 | 0,m,l=>by
  have:=zhu (mwt 0) (sub:=zdz s 0) (s.getD m .zero).fields l (fun o b=>by show ([]:List Nat).sum≤_;simp)
  rw[zf4]
  show 1+twt (zdO (zdz s 0) (s.getD m .zero).fields l).unk+((zdO (zdz s 0) (s.getD m .zero).fields l).vals.map (vwt (mwt 0))).sum≤_
  omega
 | d+1,m,l=>by
  have:=zhu (mwt (d+1)) (sub:=zdz s (d+1)) (s.getD m .zero).fields l (fun o b=>by
   have:=zcs s d o.toNat b
   show ([mwt (d+1) (tof s d o.toNat b)]).sum≤_
   simp;omega)
  rw[zf4]
  show 1+twt (zdO (zdz s (d+1)) (s.getD m .zero).fields l).unk+((zdO (zdz s (d+1)) (s.getD m .zero).fields l).vals.map (vwt (mwt (d+1)))).sum≤_
  omega
end
section
open Go.RowKit
def zar (w:World)(base:Nat)(v:Value)(l:List (List UInt8)):Prop:=w.ownsRow base 9 1 v l.length (l.map zb3)
theorem zf5:(Tryz.prog.info? 9).map (fun i=>(i.zero,i.size,i.bytes))=some (some (.string ⟨#[]⟩),1,16):=by kernel_rfl
theorem zg7:Tryz.prog.underlying 25=some (.slice 9):=Tryz.underlying25
theorem zar.form {w:World}{base:Nat}{v:Value}{l:List (List UInt8)}(h:zar w base v l):∃ a c,v= .slice a l.length c:=by
 rcases h.2 with ⟨h1,h2⟩|⟨g,cap,cur,hv,-⟩
 ·
  exact⟨none,0,by rw[h1,h2]⟩
 ·
  exact⟨_,_,hv⟩
theorem zar.strs {w:World}{base:Nat}{v:Value}{l:List (List UInt8)}(h:zar w base v l)(hn:l.length≤140737488355328)(hl:∀ t∈l,t.length≤140737488355328):zbe w v l:=
 ⟨zbQ h hn,hl⟩
theorem zar.one {W:World}{base:Nat}{v:Value}{l:List (List UInt8)}(h:zar W base v l)(t:List UInt8)(hn:l.length+1≤1099511627777)(hB:base≤W.heap.size) :
  ∃ v' w',(Builtin.append_ #[25,25] 25 #[v,.slice (some ⟨W.heap.size,0,none⟩) 1 1]).run Tryz.prog (W.alloc (.cells #[zb3 t] 9))= .ok v' w'∧zar w' base v' (l++[t])∧W.grownBy w' v.ownBlock:=by
 have hA:Below W.heap.size W (W.alloc (.cells #[zb3 t] 9)):=(Below.refl _ _).alloc (Nat.le_refl _) _
 have hx:Seg (W.alloc (.cells #[zb3 t] 9)) (.slice (some ⟨W.heap.size,0,none⟩) 1 1) 1 1 [zb3 t]:=zcA (Blk.new W [zb3 t] _) 1 1 rfl (by omega)
 have h':(W.alloc (.cells #[zb3 t] 9)).ownsRow base 9 1 v l.length (l.map zb3):=zaL h fun b _ _ he=>hA.block b (Array.getElem?_eq_some_iff.1 he).1
 obtain⟨v',w',h1,h2,h3,-⟩:=zba (P:=Tryz.prog) _ base 25 25 9 (.string ⟨#[]⟩) 1 16 zg7 zf5 rfl (by decide) v _ l.length 1 _ _ h' hx (by intro u hu;simp at hu;subst hu;rfl) (by omega) (by omega) (by simp;omega)
 refine⟨v',w',h1,?_,?_⟩
 ·
  unfold zar
  rw[List.length_append,List.map_append]
  exact h2
 ·
  exact⟨h3.os,h3.tape,h3.output,Nat.le_trans (by simp) h3.size,fun k hk hr=>(h3.block k (by simp;omega) hr).trans (Below.heap_alloc W _ k hk)⟩
end
end Go.Proofs.YtpckoeicbjfnhaaGreatDoor
