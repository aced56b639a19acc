/- darningref14.Of: what holds in a round for a record of a field (OfSt, OfMid); a message's call in it. No condition. Masks, in plain words: ways of numbers, their order, what a mask of ways is (the least ways that lie under no other one, in order), and that there is just one. -/
import Derived.Test.YtpckoeicbjfnhaaGreatDoorY18
namespace Go.Proofs.YtpckoeicbjfnhaaGreatDoor
set_option maxRecDepth 100000
set_option maxHeartbeats 16000000
section
open Go.RowKit Go.Shelf
theorem znx {s:List Mes}(hs:zaw s=true){d m:Nat}{l:List UInt8}(hm:m<s.length)(h:(zdb s d m l).2=0){fs:List Fld}(hfs:fs=(s.getD m .zero).fields){q:Nat}(hq:q<fs.length){f:Fld}(hf:f=fs.getD q .zero){all:List VW}(ha:all=(zbA fs l).1) :
  Hid (zbz (zpr s d) f l (zak all (q:Int))):=by
 subst ha;subst hf;subst hfs;exact zfr hs hm h hq
theorem zsp {d:Nat}{w:World}{num:Int}{a1 a2 a3:Option Addr}{n1 n2 n3 c1 c2 c3:Nat}{x:Val (M d)}(h:zf2 d w [.int .i64 num,.slice a1 n1 c1,.slice a2 n2 c2,.slice a3 n3 c3] x):n1+n2+n3=many x∧n1≤140737488355328∧n2≤140737488355328∧n3≤140737488355328:=by
 obtain⟨wv,tv,sv,he,-,hW,hT,hS⟩:=h
 obtain⟨h1,_,_,e1,-⟩:=hW.open
 obtain⟨h2,_,_,e2,-⟩:=hT.open
 obtain⟨h3,_,_,e3,-⟩:=hS.open
 subst e1;subst e2;subst e3
 simp at he
 obtain⟨-,⟨-,e1,-⟩,⟨-,e2,-⟩,-,e3,-⟩:=he
 unfold many
 omega
end
section
def ltW:List Int→List Int→Bool
 | [],[]=>false
 | [],_::_=>true
 | _::_,[]=>false
 | x::a,y::b=>if x=y then ltW a b else decide (x<y)
theorem zcR:∀ a,ltW a a=false
 | []=>rfl
 | x::a=>by simp[ltW,zcR a]
theorem zee:∀ a b c,ltW a b=true→ltW b c=true→ltW a c=true
 | [],b,[]=>by cases b <;> simp[ltW]
 | [],_,_::_=>by simp[ltW]
 | _::_,[],_=>by simp[ltW]
 | _::_,_::_,[]=>by simp[ltW]
 | x::a,y::b,z::c=>by
  have ih:=zee a b c
  simp only[ltW]
  by_cases h1:x=y
  ·
   subst h1
   by_cases h2:x=z
   ·
    subst h2;simpa using ih
   ·
    simp only[if_true,if_neg h2,decide_eq_true_eq];intro _ h;exact h
  ·
   by_cases h2:y=z
   ·
    subst h2
    simp only[if_true,if_neg h1,decide_eq_true_eq]
    intro h _;exact h
   ·
    by_cases h3:x=z
    ·
     subst h3
     simp only[if_neg h1,if_neg h2,decide_eq_true_eq]
     intro h h';omega
    ·
     simp only[if_neg h1,if_neg h2,if_neg h3,decide_eq_true_eq]
     intro h h';omega
theorem zgz:∀ a b,ltW a b=false→ltW b a=false→a=b
 | [],[]=>fun _ _=>rfl
 | [],_::_=>by simp[ltW]
 | _::_,[]=>by simp[ltW]
 | x::a,y::b=>by
  have ih:=zgz a b
  simp only[ltW]
  by_cases h1:x=y
  ·
   subst h1;simp only[if_true];intro h h';rw[ih h h']
  ·
   simp only[if_neg h1,if_neg (fun e:y=x=>h1 e.symm),decide_eq_false_iff_not]
   intro h h';omega
def zey (way pre:List Int):Bool:=decide (pre.length≤way.length)&&decide (way.take pre.length=pre)
theorem zez (way pre:List Int):zey way pre=true↔pre <+: way:=by
 unfold zey
 rw[List.prefix_iff_eq_take]
 simp only[Bool.and_eq_true,decide_eq_true_eq]
 constructor
 ·
  rintro⟨_,h⟩;exact h.symm
 ·
  intro h
  refine⟨?_,h.symm⟩
  have h2:=congrArg List.length h
  simp at h2
  omega
theorem zfK:∀ u v w:List Int,u <+: w→ltW v u=false→ltW w v=false→u <+: v
 | [],v,_,_,_,_=>List.nil_prefix
 | _::_,_,[],h,_,_=>by simp at h
 | x::u,[],z::w,h,h1,_=>by simp[ltW] at h1
 | x::u,y::v,z::w,h,h1,h2=>by
  rw[List.cons_prefix_cons] at h
  obtain⟨rfl,h⟩:=h
  by_cases e:x=y
  ·
   subst e
   simp only[ltW,if_true] at h1 h2
   rw[List.cons_prefix_cons]
   exact⟨rfl,zfK u v w h h1 h2⟩
  ·
   simp only[ltW,if_neg e,if_neg (fun e':y=x=>e e'.symm),decide_eq_false_iff_not] at h1 h2
   omega
theorem zj5:∀ u w:List Int,u <+: w→ltW w u=false
 | [],[],_=>rfl
 | [],_::_,_=>rfl
 | _::_,[],h=>by simp at h
 | x::u,z::w,h=>by
  rw[List.cons_prefix_cons] at h
  obtain⟨rfl,h⟩:=h
  simpa [ltW] using zj5 u w h
def zq4 (l:List (List Int))(w:List Int):Prop:=w∈l∧w≠[]∧∀ u∈l,u≠[]→u <+: w→u=w
def zfL (l o:List (List Int)):Prop:=o.Pairwise (fun a b=>ltW a b=true)∧∀ w,w∈o↔zq4 l w
theorem ziB:∀ {a b:List (List Int)},a.Pairwise (fun a b=>ltW a b=true)→b.Pairwise (fun a b=>ltW a b=true)→(∀ w,w∈a↔w∈b)→a=b
 | [],[],_,_,_=>rfl
 | [],y::b,_,_,h=>absurd ((h y).2 (by simp)) (by simp)
 | x::a,[],_,_,h=>absurd ((h x).1 (by simp)) (by simp)
 | x::a,y::b,ha,hb,h=>by
  rw[List.pairwise_cons] at ha hb
  have hxy:x=y:=by
   have h1:=(h x).1 (by simp)
   have h2:=(h y).2 (by simp)
   rcases List.mem_cons.1 h1 with e|h1
   ·
    exact e
   rcases List.mem_cons.1 h2 with e|h2
   ·
    exact e.symm
   have h3:=zee _ _ _ (ha.1 y h2) (hb.1 x h1)
   rw[zcR] at h3
   cases h3
  subst hxy
  have hab:∀ w,w∈a↔w∈b:=fun w=>by
   constructor
   ·
    intro hw
    rcases List.mem_cons.1 ((h w).1 (by simp[hw])) with e|hb'
    ·
     subst e
     have:=ha.1 w hw
     rw[zcR] at this;cases this
    ·
     exact hb'
   ·
    intro hw
    rcases List.mem_cons.1 ((h w).2 (by simp[hw])) with e|hb'
    ·
     subst e
     have:=hb.1 w hw
     rw[zcR] at this;cases this
    ·
     exact hb'
  rw[ziB ha.2 hb.2 hab]
theorem zfL.one {l a b:List (List Int)}(ha:zfL l a)(hb:zfL l b):a=b:=
 ziB ha.1 hb.1 fun w=>(ha.2 w).trans (hb.2 w).symm
def zdU (o:List (List Int)):List (List Int)→List (List Int)
 | []=>o
 | w::r=>zdU (if w=[]∨(∃ u,o.getLast?=some u∧u <+: w) then o else o++[w]) r
def zsq (l o:List (List Int)):Prop:=
 o.Pairwise (fun a b=>ltW a b=true)∧(∀ w∈o,w∈l∧w≠[])∧(∀ w∈l,w≠[]→∃ u∈o,u <+: w)∧∀ u∈o,∀ v∈o,u <+: v→u=v
theorem zsq.mask {l o:List (List Int)}(h:zsq l o):zfL l o:=by
 obtain⟨h1,h2,h3,h4⟩:=h
 refine⟨h1,fun w=>⟨fun hw=>⟨(h2 w hw).1,(h2 w hw).2,fun u hu hn hp=>?_⟩,fun ⟨hw,hn,hl⟩=>?_⟩⟩
 ·
  obtain⟨v,hv,hvu⟩:=h3 u hu hn
  have e:=h4 v hv w hw (hvu.trans hp)
  subst e
  exact hp.eq_of_length_le hvu.length_le
 ·
  obtain⟨v,hv,hvw⟩:=h3 w hw hn
  have e:=hl v (h2 v hv).1 (h2 v hv).2 hvw
  subst e
  exact hv
theorem zq5 {o:List (List Int)}(h:o.Pairwise (fun a b=>ltW a b=true)){u v:List Int}(hu:u∈o)(hv:o.getLast?=some v):u=v∨ltW u v=true:=by
 obtain⟨r,rfl⟩:∃ r,o=r++[v]:=by
  rw[List.getLast?_eq_some_iff] at hv
  exact hv
 rcases List.mem_append.1 hu with h1|h1
 ·
  exact .inr ((List.pairwise_append.1 h).2.2 u h1 v (by simp))
 ·
  exact .inl (by simpa using h1)
theorem ziC:∀ (r l o:List (List Int)),zsq l o→r.Pairwise (fun a b=>ltW b a=false)→(∀ w∈l,∀ v∈r,ltW v w=false)→zsq (l++r) (zdU o r)
 | [],l,o,h,_,_=>by simpa [zdU] using h
 | w::r,l,o,h,hr,hl=>by
  have hr':=List.pairwise_cons.1 hr
  rw[zdU,show l++w::r=(l++[w])++r by simp]
  refine ziC r (l++[w]) _ ?_ hr'.2 ?_
  ·
   obtain⟨h1,h2,h3,h4⟩:=h
   split
   ·
    rename_i hc
    refine⟨h1,fun v hv=>⟨by simp[(h2 v hv).1],(h2 v hv).2⟩,fun v hv hn=>?_,h4⟩
    rcases List.mem_append.1 hv with hv|hv
    ·
     exact h3 v hv hn
    ·
     simp at hv
     subst hv
     rcases hc with e|⟨u,hu,hp⟩
     ·
      exact absurd e hn
     ·
      exact⟨u,List.mem_of_getLast? hu,hp⟩
   ·
    rename_i hc
    simp only[not_or,not_exists,not_and] at hc
    -- none that is taken begins w
    have hno:∀ u∈o,¬ u <+: w:=by
     intro u hu hp
     have hne:o≠[]:=fun e=>by subst e;simp at hu
     have hg:o.getLast?=some (o.getLast hne):=List.getLast?_eq_some_getLast hne
     have hgm:=List.getLast_mem hne
     rcases zq5 h1 hu hg with e|hlt
     ·
      exact hc.2 _ hg (e ▸ hp)
     ·
      have hp2:u <+: o.getLast hne:=by
       refine zfK _ _ _ hp ?_ (hl _ (h2 _ hgm).1 w (by simp))
       cases hx:ltW (o.getLast hne) u with
       | false=>rfl
       | true =>
        have:=zee _ _ _ hlt hx
        rw[zcR] at this;cases this
      have e:=h4 u hu _ hgm hp2
      rw[←e,zcR] at hlt
      cases hlt
    have hnb:∀ u∈o,ltW u w=true:=by
     intro u hu
     cases hx:ltW u w with
     | true=>rfl
     | false =>
      have e:=zgz u w hx (hl u (h2 u hu).1 w (by simp))
      exact absurd (e ▸ List.prefix_refl u) (hno u hu)
    refine⟨?_,?_,?_,?_⟩
    ·
     rw[List.pairwise_append]
     exact⟨h1,by simp,fun u hu v hv=>by simp at hv;subst hv;exact hnb u hu⟩
    ·
     intro v hv
     rcases List.mem_append.1 hv with hv|hv
     ·
      exact⟨by simp[(h2 v hv).1],(h2 v hv).2⟩
     ·
      simp at hv;subst hv;exact⟨by simp,hc.1⟩
    ·
     intro v hv hn
     rcases List.mem_append.1 hv with hv|hv
     ·
      obtain⟨u,hu,hp⟩:=h3 v hv hn
      exact⟨u,by simp[hu],hp⟩
     ·
      simp at hv;subst hv;exact⟨v,by simp,List.prefix_refl v⟩
    ·
     intro u hu0 v hv0 hp
     rcases List.mem_append.1 hu0 with hu|hu <;> rcases List.mem_append.1 hv0 with hv|hv
     ·
      exact h4 u hu v hv hp
     ·
      have e:v=w:=by simpa using hv
      exact absurd (e ▸ hp) (hno u hu)
     ·
      have e:u=w:=by simpa using hu
      have h5:=hnb v hv
      rw[zj5 w v (e ▸ hp)] at h5
      cases h5
     ·
      simp at hu hv;rw[hu,hv]
  ·
   intro u hu v hv
   rcases List.mem_append.1 hu with hu|hu
   ·
    exact hl u hu v (by simp[hv])
   ·
    simp at hu;subst hu;exact hr'.1 v hv
theorem zpw {l:List (List Int)}(h:l.Pairwise (fun a b=>ltW b a=false)):zfL l (zdU [] l):=by
 have:=ziC l [] [] ⟨by simp,by simp,by simp,by simp⟩ h (by simp)
 simpa using this.mask
theorem zfL.perm {l l' o:List (List Int)}(hp:∀ w,w∈l↔w∈l')(h:zfL l o):zfL l' o:=by
 refine⟨h.1,fun w=>(h.2 w).trans ?_⟩
 unfold zq4
 constructor
 ·
  rintro⟨h1,h2,h3⟩;exact⟨(hp w).1 h1,h2,fun u hu=>h3 u ((hp u).2 hu)⟩
 ·
  rintro⟨h1,h2,h3⟩;exact⟨(hp w).2 h1,h2,fun u hu=>h3 u ((hp u).1 hu)⟩
def zsr (w:List Int):List (List Int)→List (List Int)
 | []=>[w]
 | u::r=>if ltW u w then u::zsr w r else w::u::r
theorem zlf (w v:List Int):∀ o,v∈zsr w o↔v=w∨v∈o
 | []=>by simp[zsr]
 | u::r=>by
  rw[zsr]
  split
  ·
   rw[List.mem_cons,zlf w v r,List.mem_cons]
   constructor
   ·
    rintro (h|h|h) <;> simp[h]
   ·
    rintro (h|h|h) <;> simp[h]
  ·
   simp
theorem ziD (w:List Int):∀ o:List (List Int),o.Pairwise (fun a b=>ltW a b=true)→w ∉ o→(zsr w o).Pairwise (fun a b=>ltW a b=true)
 | [],_,_=>by simp[zsr]
 | u::r,h,hn=>by
  have h':=List.pairwise_cons.1 h
  rw[zsr]
  split
  ·
   rename_i hlt
   rw[List.pairwise_cons]
   refine⟨fun v hv=>?_,ziD w r h'.2 (fun hx=>hn (by simp[hx]))⟩
   rcases (zlf w v r).1 hv with e|hv
   ·
    rw[e];exact hlt
   ·
    exact h'.1 v hv
  ·
   rename_i hlt
   have hwu:ltW w u=true:=by
    cases hx:ltW w u with
    | true=>rfl
    | false=>exact absurd (by simp[zgz w u hx (by simpa using hlt)]) hn
   rw[List.pairwise_cons]
   refine⟨fun v hv=>?_,h⟩
   rcases List.mem_cons.1 hv with e|hv
   ·
    rw[e];exact hwu
   ·
    exact zee _ _ _ hwu (h'.1 v hv)
def zss (l:List (List Int))(i:Nat):Bool:=
 decide ((l.getD i [])≠[])&&(List.range l.length).all fun k=> !(decide (k≠i)&&decide ((l.getD k [])≠[])&&zey (l.getD i []) (l.getD k [])&&(decide ((l.getD k []).length<(l.getD i []).length)||decide (k<i)))
def rOf (l:List (List Int)):Nat→List (List Int)
 | 0=>[]
 | n+1=>if zss l n then zsr (l.getD n []) (rOf l n) else rOf l n
theorem zq6 (l:List (List Int))(i:Nat)(hi:i<l.length):zss l i=true↔zq4 l (l.getD i [])∧∀ k,k<i→l.getD k []≠l.getD i []:=by
 have hget:∀ k,k<l.length→l.getD k []∈l:=fun k hk=>by
  rw[List.getD_eq_getElem?_getD,List.getElem?_eq_getElem hk];exact List.getElem_mem hk
 unfold zss zq4
 simp only[Bool.and_eq_true,decide_eq_true_eq,List.all_eq_true,List.mem_range,Bool.not_eq_true',Bool.and_eq_false_iff,decide_eq_false_iff_not,Bool.or_eq_false_iff]
 constructor
 ·
  rintro⟨hn,h⟩
  have key:∀ k,k<l.length→k≠i→l.getD k []≠[]→l.getD k [] <+: l.getD i []→¬ ((l.getD k []).length<(l.getD i []).length)∧¬ k<i:=by
   intro k hk hki hkn hp
   rcases h k hk with ((h1|h1)|h1)|h1
   ·
    exact absurd hki h1
   ·
    exact absurd hkn h1
   ·
    rw[(zez _ _).2 hp] at h1;cases h1
   ·
    exact h1
  refine⟨⟨hget i hi,hn,fun u hu hun hp=>?_⟩,fun k hk e=>?_⟩
  ·
   obtain⟨k,hk,e⟩:=List.getElem_of_mem hu
   have e':l.getD k []=u:=by rw[List.getD_eq_getElem?_getD,List.getElem?_eq_getElem hk];exact e
   by_cases hki:k=i
   ·
    subst hki;exact e'.symm
   ·
    have h5:=(key k hk hki (by rw[e'];exact hun) (by rw[e'];exact hp)).1
    rw[e'] at h5
    exact hp.eq_of_length_le (by omega)
  ·
   exact (key k (by omega) (by omega) (by rw[e];exact hn) (by rw[e];exact List.prefix_refl _)).2 hk
 ·
  rintro⟨⟨_,hn,hl⟩,hf⟩
  refine⟨hn,fun k hk=>?_⟩
  by_cases hki:k=i
  ·
   exact .inl (.inl (.inl (fun h=>h hki)))
  by_cases hkn:l.getD k []=[]
  ·
   exact .inl (.inl (.inr (fun h=>h hkn)))
  cases hb:zey (l.getD i []) (l.getD k []) with
  | false=>exact .inl (.inr rfl)
  | true =>
   have e:=hl _ (hget k hk) hkn ((zez _ _).1 hb)
   exact .inr ⟨by rw[e];omega,fun h=>hf k h e⟩
theorem zs5 (l:List (List Int)):∀ n,n≤l.length→(rOf l n).Pairwise (fun a b=>ltW a b=true)∧∀ w,w∈rOf l n↔zq4 l w∧∃ k,k<n∧l.getD k []=w
 | 0,_=>⟨by simp[rOf],by simp[rOf]⟩
 | n+1,hn=>by
  obtain⟨h1,h2⟩:=zs5 l n (by omega)
  have hk:=zq6 l n (by omega)
  rw[rOf]
  cases hx:zss l n with
  | true =>
   rw[hx] at hk
   obtain⟨hl,hf⟩:=hk.1 rfl
   refine⟨ziD _ _ h1 (fun hm=>?_),fun w=>?_⟩
   ·
    obtain⟨_,k,hk1,hk2⟩:=(h2 _).1 hm
    exact hf k hk1 hk2
   ·
    show w∈zsr (l.getD n []) (rOf l n)↔_
    rw[zlf,h2]
    constructor
    ·
     rintro (rfl|⟨hw,k,hk1,hk2⟩)
     ·
      exact⟨hl,n,by omega,rfl⟩
     ·
      exact⟨hw,k,by omega,hk2⟩
    ·
     rintro⟨hw,k,hk1,hk2⟩
     by_cases e:k=n
     ·
      subst e;exact .inl hk2.symm
     ·
      exact .inr ⟨hw,k,by omega,hk2⟩
  | false =>
   refine⟨h1,fun w=>?_⟩
   show w∈rOf l n↔_
   rw[h2]
   constructor
   ·
    rintro⟨hw,k,hk1,hk2⟩;exact⟨hw,k,by omega,hk2⟩
   ·
    rintro⟨hw,k,hk1,hk2⟩
    by_cases e:k=n
    ·
     subst e
     subst hk2
     -- it is least,but not kept: it stands further ahead
     have:¬ ∀ j,j<k→l.getD j []≠l.getD k []:=fun hf=>by
      have:=hk.2 ⟨hw,hf⟩
      rw[hx] at this;cases this
     obtain⟨j,hj⟩:=Classical.not_forall.1 this
     obtain⟨hj1,hj2⟩:=Classical.not_imp.1 hj
     exact⟨hw,j,hj1,Classical.not_not.1 hj2⟩
    ·
     exact⟨hw,k,by omega,hk2⟩
theorem zoD (l:List (List Int)):zfL l (rOf l l.length):=by
 obtain⟨h1,h2⟩:=zs5 l l.length (Nat.le_refl _)
 refine⟨h1,fun w=>(h2 w).trans ⟨fun h=>h.1,fun h=>⟨h,?_⟩⟩⟩
 obtain⟨k,hk,e⟩:=List.getElem_of_mem h.1
 exact⟨k,hk,by rw[List.getD_eq_getElem?_getD,List.getElem?_eq_getElem hk];exact e⟩
theorem zq7 {l s:List (List Int)}(hp:∀ w,w∈s↔w∈l)(hs:s.Pairwise (fun a b=>ltW b a=false)):zdU [] s=rOf l l.length:=
 ((zpw hs).perm hp).one (zoD l)
end
end Go.Proofs.YtpckoeicbjfnhaaGreatDoor
