/- Parts of a proof: texts of the author, merged. No condition of their own. -/
import Derived.Test.YtpckoeicbjfnhaaGreatDoorZ11
import Derived.Test.YtpckoeicbjfnhaaGreatDoorZ13
import Derived.Test.YtpckoeicbjfnhaaGreatDoorZ16
import Derived.Test.YtpckoeicbjfnhaaGreatDoorZ17
import Derived.Test.YtpckoeicbjfnhaaGreatDoorZ28
namespace Go.Proofs.YtpckoeicbjfnhaaGreatDoor
set_option maxRecDepth 100000
set_option maxHeartbeats 16000000
section
open Go.RowKit
structure AR where
 k:Int
 run:Bool
 val:List UInt8
 whole:List UInt8
end
section
open Go.RowKit
end
section
open Go.RowKit
end
section
open Go.RowKit
end
section
open Go.RowKit
end
section
open Go.RowKit
def qOf {α:Type}(fs:List Fld)(v:Val α):Int:=zah fs v.num
structure zrA {α:Type}(F:Fld→Val α→Bool)(fs:List Fld)(vals:List (Val α)):Prop where
 at':∀ v∈vals,0≤qOf fs v∧qOf fs v<fs.length∧(fs.getD (qOf fs v).toNat .zero).number=v.num∧F (fs.getD (qOf fs v).toNat .zero) v=true
 rise:vals.Pairwise fun a b=>a.num<b.num
theorem zlc {α:Type}{F:Fld→Val α→Bool}{fs:List Fld}:∀ {vals:List (Val α)} {last:Int},zeu F fs vals last=true→zrA F fs vals∧∀ v∈vals,last<v.num
 | [],_,_=>⟨⟨fun _ h=>by simp at h,List.Pairwise.nil⟩,fun _ h=>by simp at h⟩
 | v::r,last,h=>by
  unfold zeu at h
  by_cases h0:zah fs v.num<0∨v.num≤last∨F (fs.getD (zah fs v.num).toNat .zero) v=false
  ·
   rw[if_pos h0] at h;cases h
  rw[if_neg h0] at h
  obtain⟨⟨g1,g2⟩,g3⟩:=zlc h
  have h1:0≤zah fs v.num:=by
   by_cases h:zah fs v.num<0
   ·
    exact absurd (.inl h) h0
   ·
    omega
  have h2:last<v.num:=by
   by_cases h:v.num≤last
   ·
    exact absurd (.inr (.inl h)) h0
   ·
    omega
  have h3:F (fs.getD (zah fs v.num).toNat .zero) v=true:=by
   cases e:F (fs.getD (zah fs v.num).toNat .zero) v with
   | true=>rfl
   | false=>exact absurd (.inr (.inr e)) h0
  refine⟨⟨fun w hw=>?_,List.pairwise_cons.2 ⟨g3,g2⟩⟩,fun w hw=>?_⟩
  ·
   rcases List.mem_cons.1 hw with rfl|hw
   ·
    rcases zdW fs w.num with e|⟨k,hk,e,hn⟩
    ·
     omega
    ·
     refine⟨h1,?_,?_,h3⟩
     ·
      show zah fs w.num<_;omega
     ·
      show (fs.getD (zah fs w.num).toNat .zero).number=_
      rw[e,Int.toNat_natCast];exact hn
   ·
    exact g1 w hw
  ·
   rcases List.mem_cons.1 hw with rfl|hw
   ·
    exact h2
   ·
    have:=g3 w hw;omega
end
section
open Go.RowKit
def zeB {α β:Type}(S:α→β→Bool):List α→List β→Bool
 | [],[]=>true
 | x::r,y::t=>S x y&&zeB S r t
 | _,_=>false
def zca {α β:Type}(S:α→β→Bool)(x:Val α)(y:Val β):Bool:=decide (x.num=y.num∧x.words=y.words∧x.texts=y.texts)&&zeB S x.subs y.subs
def zbl:(a b:Nat)→M a→M b→Bool
 | 0,_,x,_=>Empty.elim x
 | _+1,0,_,y=>Empty.elim y
 | a+1,b+1,x,y=>decide (M.unk x=M.unk y)&&zeB (zca (zbl a b)) (M.vals x) (M.vals y)
theorem zld {α β:Type}(S:α→β→Bool)(l:List α)(m:List β)(k:Nat)(x:α)(y:β)(h:l[k]?=some x)(h2:m[k]?=some y):zeB S (l.drop k) (m.drop k)=(S x y&&zeB S (l.drop (k+1)) (m.drop (k+1))):=by
 obtain⟨hk,rfl⟩:=List.getElem?_eq_some_iff.1 h
 obtain⟨hk2,rfl⟩:=List.getElem?_eq_some_iff.1 h2
 rw[List.drop_eq_getElem_cons hk,List.drop_eq_getElem_cons hk2,zeB]
theorem zf2 {α β:Type}(S:α→β→Bool):∀ (l:List α) (m:List β),l.length≠m.length→zeB S l m=false
 | [],[],h=>absurd rfl h
 | [],_::_,_=>rfl
 | _::_,[],_=>rfl
 | x::r,y::t,h=>by
  rw[zeB,zf2 S r t (by simpa using h),Bool.and_false]
theorem zpM {α:Type}[DecidableEq α](l m:List α)(k:Nat)(x y:α)(h:l[k]?=some x)(h2:m[k]?=some y):decide (l.drop k=m.drop k)=(decide (x=y)&&decide (l.drop (k+1)=m.drop (k+1))):=by
 obtain⟨hk,rfl⟩:=List.getElem?_eq_some_iff.1 h
 obtain⟨hk2,rfl⟩:=List.getElem?_eq_some_iff.1 h2
 rw[Bool.eq_iff_iff,Bool.and_eq_true,decide_eq_true_iff,decide_eq_true_iff,decide_eq_true_iff,List.drop_eq_getElem_cons hk,List.drop_eq_getElem_cons hk2,List.cons.injEq]
theorem zdP (x y:List UInt8):((⟨x.toArray⟩:ByteArray).toList == (⟨y.toArray⟩:ByteArray).toList)=decide (x=y):=by
 rw[Bool.eq_iff_iff]
 simp[ByteArray.toList_eq]
theorem zq9:∀ {d:Nat} {w:World} {v:Value} {x:M d},zan d w v x→∃ a1 n1 c1 a2 n2 c2,v= .agg #[.slice a1 n1 c1,.slice a2 n2 c2]
 | 0,_,_,_,h=>h.elim
 | d+1,_,_,_,h=>by
  obtain⟨vv,uv,rfl,hV,hU⟩:=h
  obtain⟨-,va,vc,rfl,-,-⟩:=hV.open
  obtain⟨-,ua,uc,rfl,-,-⟩:=hU.open
  exact⟨_,_,_,_,_,_,rfl⟩
theorem zra {d:Nat}{w:World}{m:Int}{v1 v2 v3:Value}{x:Val (M d)}(h:zbD (zan d) w (.agg #[.int .i64 m,v1,v2,v3]) x):∃ a1 n1 c1 a2 n2 c2 a3 n3 c3,v1= .slice a1 n1 c1∧v2= .slice a2 n2 c2∧v3= .slice a3 n3 c3:=by
 obtain⟨wv,tv,sv,e,-,hW,hT,hS⟩:=h
 cases e
 obtain⟨-,wa,wc,rfl,-,-⟩:=hW.open
 obtain⟨-,ta,tc,rfl,-,-⟩:=hT.open
 obtain⟨-,sa,sc,rfl,-,-⟩:=hS.open
 exact⟨_,_,_,_,_,_,_,_,_,rfl,rfl,rfl⟩
end
end Go.Proofs.YtpckoeicbjfnhaaGreatDoor
