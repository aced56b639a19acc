/- Plain laws: a right meaning can be set at a way that leads to a field (setOk_right); how much it weighs then (mwt_set). No condition. -/
import Derived.Test.YtdpnmdkbdibkpaaGreatDoorZ14
import Derived.Test.YtdpnmdkbdibkpaaGreatDoorZ27
import Derived.Test.YtdpnmdkbdibkpaaGreatDoorZ32
namespace Go.Proofs.YtdpnmdkbdibkpaaGreatDoor
set_option maxRecDepth 100000
set_option maxHeartbeats 16000000
section
open Go.RowKit
theorem zc6 {s:List Mes}(hs:zaC s=true){m:Nat}:∀ (way:List Int) (root:Nat) (x:M (m+way.length)) (ns:List (List UInt8)),root<s.length→zaz s root way=some ns→zae s (m+way.length) (root:Int) x=true→zge way x
 | [],_,_,_,_,_,_=>trivial
 | [n],root,x,ns,_,_,h=>(zdW (d:=m) h).2
 | n::k::r,root,x,ns,hr,hn,h=>by
  obtain⟨h1,h2⟩:=zdW (d:=m+(k::r).length) h
  refine⟨h2,fun w hw=>?_⟩
  obtain⟨j,hj1,hj2,hj3,hj4,hj5⟩:=zfJ hs hr hn
  obtain⟨hrep,hkind,ns',hns'⟩:=hj4 (by simp)
  obtain⟨q,hq1,hq2⟩:=hj5 (by simp)
  obtain⟨hnum,hmem⟩:=zbO hw
  obtain⟨-,-,-,hf⟩:=h1.at' w hmem
  unfold qOf at hf
  rw[Int.toNat_natCast,hnum,hj1,Int.toNat_natCast,←hj3] at hf
  obtain⟨y,hy,hry⟩:=zeC hf hkind hrep
  rw[hq1] at hry hns'
  exact⟨y,hy,zc6 hs (k::r) q y ns' hq2 hns' hry⟩
theorem zpp {α:Type}(f:Val α→Nat)(n:Int)(l:List (Val α)):((zm1 n l).map f).sum≤(l.map f).sum:=by
 unfold zm1
 induction l with
 | nil=>simp
 | cons x r ih =>
  rw[List.filter_cons]
  split
  ·
   simp only[List.map_cons,List.sum_cons];omega
  ·
   simp only[List.map_cons,List.sum_cons];omega
theorem zi5 {m:Nat}(v:Val (M m)):∀ (way:List Int) (x:M (m+way.length)),zge way x→mwt (m+way.length) (zdj way x v)≤mwt (m+way.length) x+vwt (mwt m) v+2*way.length
 | [],x,_=>by show mwt _ x≤_;omega
 | [n],x,h=>by
  have h1:((zoK n v (M.vals (d:=m) x)).map (vwt (mwt m))).sum≤((M.vals (d:=m) x).map (vwt (mwt m))).sum+vwt (mwt m) v:=by
   unfold zoK
   split
   ·
    have:=zpp (vwt (mwt m)) n (M.vals (d:=m) x);omega
   ·
    have:=zfj (vwt (mwt m)) ⟨n,v.words,v.texts,v.subs⟩ (l:=M.vals (d:=m) x) h
    have h2:vwt (mwt m) (⟨n,v.words,v.texts,v.subs⟩:Val (M m))=vwt (mwt m) v:=rfl
    omega
  show 1+twt (M.unk (d:=m) x)+((zoK n v (M.vals (d:=m) x)).map (vwt (mwt m))).sum≤1+twt (M.unk (d:=m) x)+((M.vals (d:=m) x).map (vwt (mwt m))).sum+vwt (mwt m) v+2*1
  omega
 | n::k::r,x,h=>by
  obtain⟨hr,hs⟩:=h
  have hw:mwt (m+(n::k::r).length) x=1+twt (M.unk (d:=m+(k::r).length) x)+((M.vals (d:=m+(k::r).length) x).map (vwt (mwt (m+(k::r).length)))).sum:=rfl
  have hput:∀ y:M (m+(k::r).length),vwt (mwt (m+(k::r).length)) (⟨n,[],[],[y]⟩:Val (M (m+(k::r).length)))=1+mwt (m+(k::r).length) y:=fun y=>by
   unfold vwt twt;simp
  cases hg:zbu (M.vals (d:=m+(k::r).length) x) n with
  | some w =>
   obtain⟨y,hy,hok⟩:=hs w hg
   have ih:=zi5 v (k::r) y hok
   have hsum:=zfj (vwt (mwt (m+(k::r).length))) ⟨n,[],[],[zdj (k::r) y v]⟩ (l:=M.vals (d:=m+(k::r).length) x) hr
   rw[hput] at hsum
   simp only[hg] at hsum
   have hw2:1+mwt (m+(k::r).length) y≤vwt (mwt (m+(k::r).length)) w:=by
    unfold vwt
    rw[hy,List.map_cons,List.map_nil,List.sum_cons,List.sum_nil]
    omega
   rw[zhv hg hy]
   have he:mwt (m+(n::k::r).length) (⟨zdk ⟨n,[],[],[zdj (k::r) y v]⟩ (M.vals (d:=m+(k::r).length) x),M.unk (d:=m+(k::r).length) x⟩:zec (M (m+(k::r).length)))=1+twt (M.unk (d:=m+(k::r).length) x)+((zdk ⟨n,[],[],[zdj (k::r) y v]⟩ (M.vals (d:=m+(k::r).length) x)).map (vwt (mwt (m+(k::r).length)))).sum:=rfl
   rw[he,hw]
   simp only[List.length_cons] at ih hsum hw2 ⊢
   omega
  | none =>
   by_cases h0:zcD v=0
   ·
    rw[zhu hg h0];omega
   ·
    have ih:=zi5 v (k::r) (zi9 (m+r.length)) (zht k r)
    have hsum:=zfj (vwt (mwt (m+(k::r).length))) ⟨n,[],[],[zdj (k::r) (zi9 (m+r.length)) v]⟩ (l:=M.vals (d:=m+(k::r).length) x) hr
    rw[hput] at hsum
    simp only[hg] at hsum
    have hn1:mwt (m+(k::r).length) (zi9 (m+r.length))=1:=rfl
    rw[hn1] at ih
    rw[zi3 hg h0]
    have he:mwt (m+(n::k::r).length) (⟨zdk ⟨n,[],[],[zdj (k::r) (zi9 (m+r.length)) v]⟩ (M.vals (d:=m+(k::r).length) x),M.unk (d:=m+(k::r).length) x⟩:zec (M (m+(k::r).length)))=1+twt (M.unk (d:=m+(k::r).length) x)+((zdk ⟨n,[],[],[zdj (k::r) (zi9 (m+r.length)) v]⟩ (M.vals (d:=m+(k::r).length) x)).map (vwt (mwt (m+(k::r).length)))).sum:=rfl
    rw[he,hw]
    simp only[List.length_cons] at ih hsum ⊢
    omega
end
end Go.Proofs.YtdpnmdkbdibkpaaGreatDoor
