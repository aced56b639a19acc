/- Parts of a proof: texts of the author, merged. No condition of their own. -/
import Derived.Test.YtpckoeicbjfnhaaGreatDoorY01
import Derived.Test.YtpckoeicbjfnhaaGreatDoorY08
import Derived.Test.YtpckoeicbjfnhaaGreatDoorY10
import Derived.Laws.AppendOwn
import Derived.OwnWalk
import Derived.Maps.AppendAt
namespace Go.Proofs.YtpckoeicbjfnhaaGreatDoor
set_option maxRecDepth 100000
set_option maxHeartbeats 16000000
section
open Go.RowKit
structure Val (α:Type) where
 num:Int
 words:List Nat
 texts:List (List UInt8)
 subs:List α
structure zsa (α:Type) where
 vals:List (Val α)
 unk:List (List UInt8)
def M:Nat→Type
 | 0=>Empty
 | d+1=>zsa (M d)
def M.vals {d:Nat}(x:M (d+1)):List (Val (M d)):=zsa.vals x
def M.unk {d:Nat}(x:M (d+1)):List (List UInt8):=zsa.unk x
def Val.zero {α:Type}:Val α:=⟨0,[],[],[]⟩
def zb3 (t:List UInt8):Value:=.string ⟨t.toArray⟩
def zkV (x:Nat):Value:=.int .u64 (x:Int)
def zbe (w:World)(v:Value)(l:List (List UInt8)):Prop:=Seg w v 1 l.length (l.map zb3)∧∀ t∈l,t.length≤140737488355328
def zby (w:World)(v:Value)(l:List Nat):Prop:=Seg w v 1 l.length (l.map zkV)∧∀ x∈l,x<2 ^ 64
def zcL {α:Type}(P:World→List Value→α→Prop)(k:Nat)(w:World)(v:Value)(l:List α):Prop:=
 ∃ rows:List (List Value),rows.length=l.length∧(∀ r∈rows,r.length=k)∧Seg w v k l.length rows.flatten∧∀ (i:Nat) (r:List Value) (x:α),rows[i]?=some r→l[i]?=some x→P w r x
def ze4 {α:Type}(P:World→Value→α→Prop)(w:World)(v:Value)(l:List α):Prop:=zcL (fun w r x=>P w (.agg r.toArray) x) 2 w v l
def zb6 {α:Type}(P:World→Value→α→Prop)(w:World)(v:Value)(x:Val α):Prop:=
 ∃ wv tv sv,v= .agg #[.int .i64 x.num,wv,tv,sv]∧(-9223372036854775808≤x.num∧x.num≤9223372036854775807)∧zby w wv x.words∧zbe w tv x.texts∧ze4 P w sv x.subs
def zdR {α:Type}(P:World→Value→α→Prop)(w:World)(v:Value)(l:List (Val α)):Prop:=zcL (fun w r x=>zb6 P w (.agg r.toArray) x) 4 w v l
def zat:(d:Nat)→World→Value→M d→Prop
 | 0,_,_,_=>False
 | d+1,w,v,x=>∃ vv uv,v= .agg #[vv,uv]∧zdR (zat d) w vv (M.vals x)∧zbe w uv (M.unk x)
theorem zbe.keep {w w':World}{v:Value}{l:List (List UInt8)}(h:zbe w v l)(hk:∀ p u,w.cell? p=some u→w'.cell? p=some u):zbe w' v l:=⟨h.1.keep hk,h.2⟩
theorem zby.keep {w w':World}{v:Value}{l:List Nat}(h:zby w v l)(hk:∀ p u,w.cell? p=some u→w'.cell? p=some u):zby w' v l:=⟨h.1.keep hk,h.2⟩
theorem zcL.keep {α:Type}{P:World→List Value→α→Prop}{k:Nat}{w w':World}{v:Value}{l:List α}(h:zcL P k w v l)(hk:∀ p u,w.cell? p=some u→w'.cell? p=some u)(hP:∀ r x,P w r x→P w' r x):zcL P k w' v l:=
 let ⟨rows,h1,h0,h2,h3⟩:=h
 ⟨rows,h1,h0,h2.keep hk,fun i r x hr hx=>hP _ _ (h3 i r x hr hx)⟩
theorem ze4.keep {α:Type}{P:World→Value→α→Prop}{w w':World}{v:Value}{l:List α}(h:ze4 P w v l)(hk:∀ p u,w.cell? p=some u→w'.cell? p=some u)(hP:∀ v x,P w v x→P w' v x):ze4 P w' v l:=
 zcL.keep h hk fun _ _ hx=>hP _ _ hx
theorem zb6.keep {α:Type}{P:World→Value→α→Prop}{w w':World}{v:Value}{x:Val α}(h:zb6 P w v x)(hk:∀ p u,w.cell? p=some u→w'.cell? p=some u)(hP:∀ v x,P w v x→P w' v x):zb6 P w' v x:=
 let ⟨wv,tv,sv,h1,h2,h3,h4,h5⟩:=h
 ⟨wv,tv,sv,h1,h2,h3.keep hk,h4.keep hk,h5.keep hk hP⟩
theorem zdR.keep {α:Type}{P:World→Value→α→Prop}{w w':World}{v:Value}{l:List (Val α)}(h:zdR P w v l)(hk:∀ p u,w.cell? p=some u→w'.cell? p=some u)(hP:∀ v x,P w v x→P w' v x):zdR P w' v l:=
 zcL.keep h hk fun _ _ hx=>hx.keep hk hP
theorem zat.keep:∀ {d:Nat} {w w':World} {v:Value} {x:M d},zat d w v x→(∀ p u,w.cell? p=some u→w'.cell? p=some u)→zat d w' v x
 | 0,_,_,_,_,h,_=>h.elim
 | d+1,_,_,_,_,h,hk=>by
  obtain⟨vv,uv,h1,h2,h3⟩:=h
  exact⟨vv,uv,h1,h2.keep hk fun v x hx=>zat.keep hx hk,h3.keep hk⟩
theorem zat.below {d:Nat}{w w':World}{v:Value}{x:M d}(h:zat d w v x)(hb:Below w.heap.size w w'):zat d w' v x:=h.keep (zaa hb)
theorem VMsg.keep {d:Nat}{w w':World}{v:Value}{x:Val (M d)}(h:zb6 (zat d) w v x)(hk:∀ p u,w.cell? p=some u→w'.cell? p=some u):zb6 (zat d) w' v x:=zb6.keep h hk fun _ _ hx=>hx.keep hk
theorem VMsg.below {d:Nat}{w w':World}{v:Value}{x:Val (M d)}(h:zb6 (zat d) w v x)(hb:Below w.heap.size w w'):zb6 (zat d) w' v x:=VMsg.keep h (zaa hb)
theorem zbe.open {w:World}{v:Value}{l:List (List UInt8)}(h:zbe w v l) :
  l.length≤140737488355328∧∃ a cap,v= .slice a l.length cap∧(a=none→cap=0)∧∀ k t,l[k]?=some t→t.length≤140737488355328∧∃ b o,a=some ⟨b,o,none⟩∧w.cell? ⟨b,o+k,none⟩=some (zb3 t):=by
 obtain⟨⟨_,h2,a,cap,hv,h3,h4,h5,h6⟩,hl⟩:=h
 refine⟨h2,a,cap,hv,h5,fun k t hk=>⟨hl _ (List.mem_of_getElem? hk),h6 k _ ?_⟩⟩
 simp[hk]
theorem zby.open {w:World}{v:Value}{l:List Nat}(h:zby w v l) :
  l.length≤140737488355328∧∃ a cap,v= .slice a l.length cap∧(a=none→cap=0)∧∀ k x,l[k]?=some x→x<2 ^ 64∧∃ b o,a=some ⟨b,o,none⟩∧w.cell? ⟨b,o+k,none⟩=some (zkV x):=by
 obtain⟨⟨_,h2,a,cap,hv,h3,h4,h5,h6⟩,hl⟩:=h
 refine⟨h2,a,cap,hv,h5,fun k t hk=>⟨hl _ (List.mem_of_getElem? hk),h6 k _ ?_⟩⟩
 simp[hk]
theorem zen {k:Nat}:∀ (rows:List (List Value)) (i j:Nat) (r:List Value),(∀ r∈rows,r.length=k)→rows[i]?=some r→j<k→rows.flatten[i*k+j]?=r[j]?
 | [],_,_,_,_,h,_=>by simp at h
 | y::l,0,j,r,hk,h,hj=>by
  simp at h
  subst h
  rw[List.flatten_cons,Nat.zero_mul,Nat.zero_add,List.getElem?_append_left (by rw[hk y (by simp)];exact hj)]
 | y::l,i+1,j,r,hk,h,hj=>by
  have:=zen l i j r (fun r hr=>hk r (by simp[hr])) (by simpa using h) hj
  rw[List.flatten_cons,List.getElem?_append_right (by rw[hk y (by simp),Nat.succ_mul];omega),hk y (by simp)]
  rw[show (i+1)*k+j - k=i*k+j by rw[Nat.succ_mul];omega]
  exact this
theorem zcL.open {α:Type}{P:World→List Value→α→Prop}{k:Nat}(hk0:0<k){w:World}{v:Value}{l:List α}(h:zcL P k w v l) :
  l.length≤140737488355328∧∃ a cap,v= .slice a l.length cap∧(a=none→cap=0)∧∀ i x,l[i]?=some x→∃ b o r,a=some ⟨b,o,none⟩∧r.length=k∧(∀ j u,r[j]?=some u→w.cell? ⟨b,o+i*k+j,none⟩=some u)∧P w r x:=by
 obtain⟨rows,hl,hk,⟨_,h2,a,cap,hv,h3,h4,h5,h6⟩,hP⟩:=h
 refine⟨h2,a,cap,hv,h5,fun i x hi=>?_⟩
 have hil:i<l.length:=(List.getElem?_eq_some_iff.1 hi).1
 have hr:rows[i]?=some (rows[i]'(by omega)):=List.getElem?_eq_getElem (by omega)
 have hrk:=hk _ (List.mem_of_getElem? hr)
 generalize rows[i]'(by omega)=r at hr hrk
 have hc:=fun j (hj:j<k)=>zen rows i j r hk hr hj
 have h0:r[0]?=some (r[0]'(by omega)):=List.getElem?_eq_getElem (by omega)
 obtain⟨b,o,ha,g0⟩:=h6 _ _ ((hc 0 hk0).trans h0)
 refine⟨b,o,r,ha,hrk,fun j u hu=>?_,hP i r x hr hi⟩
 have hj:j<k:=by rw[←hrk];exact (List.getElem?_eq_some_iff.1 hu).1
 obtain⟨b',o',ha',hcell⟩:=h6 _ u ((hc j hj).trans hu)
 rw[ha] at ha'
 cases ha'
 rw[Nat.add_assoc];exact hcell
theorem ze4.open {α:Type}{P:World→Value→α→Prop}{w:World}{v:Value}{l:List α}(h:ze4 P w v l) :
  l.length≤140737488355328∧∃ a cap,v= .slice a l.length cap∧(a=none→cap=0)∧∀ k x,l[k]?=some x→∃ b o v1 v2,a=some ⟨b,o,none⟩∧w.cell? ⟨b,o+k*2,none⟩=some v1∧w.cell? ⟨b,o+k*2+1,none⟩=some v2∧P w (.agg #[v1,v2]) x:=by
 obtain⟨h1,a,cap,h2,h3,h4⟩:=zcL.open (by decide) h
 refine⟨h1,a,cap,h2,h3,fun k x hx=>?_⟩
 obtain⟨b,o,r,ha,hr,hc,hP⟩:=h4 k x hx
 match r,hr with
 | [v1,v2],_=>exact⟨b,o,v1,v2,ha,hc 0 _ rfl,hc 1 _ rfl,hP⟩
theorem zdR.open {α:Type}{P:World→Value→α→Prop}{w:World}{v:Value}{l:List (Val α)}(h:zdR P w v l) :
  l.length≤140737488355328∧∃ a cap,v= .slice a l.length cap∧(a=none→cap=0)∧∀ k x,l[k]?=some x→∃ b o v1 v2 v3,a=some ⟨b,o,none⟩ ∧
   w.cell? ⟨b,o+k*4,none⟩=some (.int .i64 x.num)∧w.cell? ⟨b,o+k*4+1,none⟩=some v1∧w.cell? ⟨b,o+k*4+2,none⟩=some v2∧w.cell? ⟨b,o+k*4+3,none⟩=some v3 ∧
   zb6 P w (.agg #[.int .i64 x.num,v1,v2,v3]) x:=by
 obtain⟨h1,a,cap,h2,h3,h4⟩:=zcL.open (by decide) h
 refine⟨h1,a,cap,h2,h3,fun k x hx=>?_⟩
 obtain⟨b,o,r,ha,hr,hc,hP⟩:=h4 k x hx
 match r,hr with
 | [v0,v1,v2,v3],_ =>
  have hP':=hP
  obtain⟨wv,tv,sv,e,-⟩:=hP'
  cases e
  exact⟨b,o,v1,v2,v3,ha,hc 0 _ rfl,hc 1 _ rfl,hc 2 _ rfl,hc 3 _ rfl,hP⟩
/-! The weight: how many things and bytes there are. -/
def twt (l:List (List UInt8)):Nat:=(l.map fun t=>1+t.length).sum
def vwt {α:Type}(f:α→Nat)(v:Val α):Nat:=1+v.words.length+twt v.texts+(v.subs.map f).sum
def mwt:(d:Nat)→M d→Nat
 | 0,_=>0
 | d+1,x=>1+twt (M.unk x)+((M.vals x).map (vwt (mwt d))).sum
theorem zsf {α:Type}(f:α→Nat)(l:List α)(k:Nat)(x:α)(h:l[k]?=some x):((l.take (k+1)).map f).sum=((l.take k).map f).sum+f x:=by
 rw[List.take_add_one,h]
 simp
theorem znm {α:Type}(f:α→Nat)(l:List α)(k:Nat):((l.take k).map f).sum≤(l.map f).sum:=by
 conv=>rhs;rw[←List.take_append_drop k l]
 rw[List.map_append,List.sum_append]
 omega
theorem za4 {α:Type}(f:α→Nat)(l:List α)(x:α)(h:x∈l):f x≤(l.map f).sum:=by
 obtain⟨k,hk⟩:=List.mem_iff_getElem?.1 h
 have h1:=zsf f l k x hk
 have h2:=znm f l (k+1)
 omega
end
section
open Go.RowKit
theorem zsg (x:Nat):∀ (i acc:Nat),x*128 ^ i<2 ^ 64→i≤9→vgo i acc (zeJ x)=(acc+x*128 ^ i,i+(zeJ x).length,0):=by
 induction x using Nat.strongRecOn with
 | ind x ih =>
  intro i acc h hi
  have e9:(128:Nat) ^ 9=2 ^ 63:=by decide
  by_cases hx:x<128
  ·
   rw[zd9 hx,vgo]
   have hc:(b8 x).toNat=x:=by simp[b8];omega
   rw[hc,if_neg,if_pos hx]
   ·
    rfl
   ·
    rintro⟨rfl,h1⟩
    have:2*128 ^ 9≤x*128 ^ 9:=Nat.mul_le_mul_right _ (by omega)
    omega
  ·
   have hi':i≠9:=by
    rintro rfl
    have:128*128 ^ 9≤x*128 ^ 9:=Nat.mul_le_mul_right _ (by omega)
    omega
   rw[zgq hx,vgo]
   have hc:(b8 (128+x % 128)).toNat=128+x % 128:=by simp[b8];omega
   have hstep:x*128 ^ i=(x % 128)*128 ^ i+x / 128*128 ^ (i+1):=by
    rw[Nat.pow_succ,Nat.mul_comm (128 ^ i) 128,←Nat.mul_assoc,←Nat.add_mul]
    congr 1
    omega
   rw[hc,if_neg (by omega),if_neg (by omega),ih (x / 128) (by omega) (i+1) _ (by omega) (by omega)]
   refine Prod.ext ?_ (Prod.ext ?_ rfl)
   ·
    show acc+(128+x % 128 - 128)*128 ^ i+x / 128*128 ^ (i+1)=acc+x*128 ^ i
    rw[hstep,Nat.add_sub_cancel_left];omega
   ·
    simp;omega
theorem zcp {x:Nat}(h:x<2 ^ 64):zaO (zeJ x)=(x,(zeJ x).length,0):=by
 have:=zsg x 0 0 (by simpa using h) (by omega)
 simpa [zaO] using this
theorem zop (x:Nat):1≤(zeJ x).length:=by
 by_cases h:x<128
 ·
  rw[zd9 h];simp
 ·
  rw[zgq h];simp
def zcq:Nat→Nat→List UInt8
 | 0,_=>[]
 | n+1,x=>b8 (x % 256)::zcq n (x / 256)
theorem zaZ:∀ (n x:Nat),(zcq n x).length=n
 | 0,_=>rfl
 | n+1,x=>by simp[zcq,zaZ n]
theorem zf1:∀ (n x:Nat),zcq (n+1) x=zcq n x++[b8 (x / 256 ^ n % 256)]
 | 0,x=>by simp[zcq]
 | n+1,x=>by
  rw[zcq,zf1 n (x / 256),Nat.div_div_eq_div_mul,←Nat.pow_succ']
  rfl
def zeQ (k:Int)(x:Nat):List UInt8:=if 12≤k then zcq 8 (zaE k x) else if 9≤k then zcq 4 (zaE k x) else zeJ (zaE k x)
def zbR (k:Int)(l:List Nat):List UInt8:=l.flatMap (zeQ k)
theorem zg1 (k:Int){x:Nat}(h:x<2 ^ 64):(zeQ k x).length≤10:=by
 unfold zeQ
 split
 ·
  rw[zaZ];omega
 ·
  split
  ·
   rw[zaZ];omega
  ·
   exact ze3 (zdv k h)
theorem zeo (k:Int):∀ (l:List Nat),(∀ x∈l,x<2 ^ 64)→(zbR k l).length≤10*l.length
 | [],_=>by simp[zbR]
 | x::t,h=>by
  have h1:=zg1 k (h x (by simp))
  have h2:=zeo k t (fun y hy=>h y (by simp[hy]))
  unfold zbR at *
  rw[List.flatMap_cons,List.length_append,List.length_cons]
  omega
theorem zpc (k:Int)(l:List Nat)(i:Nat)(x:Nat)(h:l[i]?=some x):zbR k (l.take (i+1))=zbR k (l.take i)++zeQ k x:=by
 unfold zbR
 rw[List.take_add_one,h,List.flatMap_append]
 simp
def zcI (wire:Int)(l:List UInt8):Bool:=if wire=0 then decide ((zaO l).2.2=0∧(zaO l).2.1=l.length) else if wire=1 then decide (l.length=8) else if wire=5 then decide (l.length=4) else decide (wire=2)
def zcj (n wire:Int)(l:List UInt8):List UInt8:=zeJ (8*n+wire).toNat++((if wire=2 then zeJ l.length else [])++l)
theorem zgr {k:Int}{x:Nat}(hk:zac k=true)(h:x<2 ^ 64):zcI (zas k) (zeQ k x)=true:=by
 have hk':1≤k∧k≤14:=of_decide_eq_true hk
 unfold zas zeQ
 rw[if_neg (by omega),if_neg (by omega)]
 by_cases h1:12≤k
 ·
  rw[if_pos h1,if_pos h1]
  simp[zcI,zaZ]
 ·
  rw[if_neg h1,if_neg h1]
  by_cases h2:9≤k
  ·
   rw[if_pos h2,if_pos h2]
   simp[zcI,zaZ]
  ·
   rw[if_neg h2,if_neg h2]
   simp[zcI,zcp (zdv k h)]
def zcB {α:Type}(R:Int→α→Bool)(f:Fld)(x:Val α):Bool:=
 if x.words.length+x.texts.length+x.subs.length=0∨1<x.words.length+x.texts.length+x.subs.length∧f.rep=false then false
 else if zac f.kind=true then decide (x.texts.length=0∧x.subs.length=0)&&x.words.all fun w=>decide (zaE f.kind w=w)
 else if f.kind=17 then decide (x.words.length=0∧x.texts.length=0)&&x.subs.all (R f.of)
 else if f.kind=15 then decide (x.words.length=0∧x.subs.length=0)&&x.texts.all fun t=>decide (zbw t=t.length)
 else decide (f.kind=16)&&decide (x.words.length=0∧x.subs.length=0)
def zbf (fs:List Fld)(t:List UInt8):Bool:=decide ((zaJ t 0).2=0∧(zaJ t 0).1.to=t.length)&&decide (zae fs (zaJ t 0).1.number<0)
def zfD {α:Type}(F:Fld→Val α→Bool)(fs:List Fld):List (Val α)→Int→Bool
 | [],_=>true
 | x::r,last=>if zae fs x.num<0∨x.num≤last∨F (fs.getD (zae fs x.num).toNat .zero) x=false then false else zfD F fs r x.num
def zav (s:List Mes):(d:Nat)→Int→M d→Bool
 | 0,_,_=>false
 | d+1,root,x=>if root<0∨(s.length:Int)≤root then false else
   zfD (zcB (zav s d)) (s.getD root.toNat .zero).fields (M.vals x) 0&&(M.unk x).all (zbf (s.getD root.toNat .zero).fields)
def zhL {α:Type}(E:Int→α→List UInt8)(f:Fld)(x:Val α):List UInt8:=
 if zac f.kind=true then (if f.rep=true then zcj f.number 2 (zbR f.kind x.words) else zcj f.number (zas f.kind) (zeQ f.kind (x.words.getD 0 0)))
 else x.texts.flatMap (zcj f.number 2)++x.subs.flatMap fun y=>zcj f.number 2 (E f.of y)
def zfE (s:List Mes):(d:Nat)→Int→M d→List UInt8
 | 0,_,_=>[]
 | d+1,root,x=>(M.vals x).flatMap (fun v=>zhL (zfE s d) ((s.getD root.toNat .zero).fields.getD (zae (s.getD root.toNat .zero).fields v.num).toNat .zero) v)++(M.unk x).flatMap id
end
section
open Go.RowKit
theorem zqH (w:World)(r j:Nat)(v:Value):w.grownBy (w.setCell ⟨r,j,none⟩ v) (some r):=
 have hb:=(Below.refl 0 w).setCell (p:=⟨r,j,none⟩) (Nat.zero_le _) v
 ⟨hb.os,hb.tape,hb.output,hb.size,fun k _ hr=>Below.heap_setCell w _ _ k (fun e=>hr (by rw[e]))⟩
theorem zio {w:World}{v vf:Value}{l:List UInt8}{fs:List Fld}(h:zal w v l)(hf:zaK w vf fs)(nm:ByteArray)(i:Nat)(hi63:i≤9223372036854775807)(c:Nat)(e:zao fs l i=(.none,0,false,c)) :
  Calls Tryz.prog 175 #[.agg #[.string nm,vf],v,.int .i64 i] w fun e w'=>e= .returned (.tuple #[zc4 .none 0 false,.int .u8 c])∧Below w.heap.size w w':=by
 have:=zii h hf nm i hi63
 rw[e] at this
 exact this
theorem ze5 {w:World}{v vf:Value}{l:List UInt8}{fs:List Fld}(h:zal w v l)(hf:zaK w vf fs)(nm:ByteArray)(i:Nat)(hi63:i≤9223372036854775807)(r:Rec)(k:Int)(run:Bool)(e:zao fs l i=(r,k,run,0)) :
  Calls Tryz.prog 175 #[.agg #[.string nm,vf],v,.int .i64 i] w fun e w'=>e= .returned (.tuple #[zc4 r k run,.int .u8 0])∧Below w.heap.size w w':=by
 have:=zii h hf nm i hi63
 rw[e] at this
 exact this
theorem zdS {w0:World}{cb:Nat}{sv:Value}{s:List Mes}(hS:zap w0 sv s)(hs:zaw s=true)(d:Nat)(hrec:d≠0→MsgC w0 cb sv s (d - 1)):MsgC w0 cb sv s d:=by
 rintro m depth fr zf zd zm w v l rfl rfl rfl hm hC hv hl hd
 obtain⟨x,HX⟩:∃ x,Hid (x=zdb s d m l):=⟨_,rfl⟩
 rw[←HX.out]
 have HX0:Hid (x=zgX s d m l 0):=by rw[Hid,HX.out,ze0]
 obtain⟨dd,hblk⟩:=hC.blk
 have HBK:=hid hblk
 have HC:=hid hC
 have HS:=hid hS
 have HV:=hid hv
 obtain⟨hslen,sa,scap,rfl,hat⟩:=hS.open
 obtain⟨sb,so,fv,rfl,hnm,c0,c1,hfat⟩:=hat m hm
 clear hat hS
 obtain⟨hvl,va,vcap,rfl,-,-,-,-⟩:=hv.open
 obtain⟨ln,HL⟩:∃ ln,Hid (ln=l.length):=⟨_,rfl⟩
 rw[←HL.out] at hl hvl HV ⊢
 obtain⟨sn,HSN⟩:∃ sn,Hid (sn=s.length):=⟨_,rfl⟩
 have HRE:=hid hrec
 clear hrec
 rw[←HSN.out] at hslen HBK HS HRE ⊢
 have hmn:m<sn:=by rw[HSN.out];exact hm
 have HC0:=hid c0
 have HC1:=hid c1
 have HFT:=hid hfat
 clear c0 c1 hfat hblk hC hv
 have k0:=HBK.out.cell 0 _ rfl
 have k1:=HBK.out.cell 1 _ rfl
 have kz:=HBK.out.free
 have kl:=HBK.out.lt
 go_enter Tryz.func122,Tryz.ntmps122
 go_upto_region 1 with fail
 go_cut [] (fun wx=>Hid (Chk w0 cb (.slice (some ⟨sb,so,none⟩) sn scap) wx∧w.grownBy wx (some cb)))
 case first =>
  go_wp2
  all_goals
   go_meet
   case rel =>
    exact⟨⟨HC.out.le,HC.out.below.setCell HC.out.le _,⟨_,HBK.out.set 1 _⟩⟩,zqH _ _ _ _⟩
 case rest =>
  have HCC:=hcut
  clear k0 k1 kz kl hcut
  go_wp2
  go_loopw [14,15] (fun v14 _ wr=>∃ i:Nat,i≤ln∧v14= .int .i64 i∧Hid (Chk w0 cb (.slice (some ⟨sb,so,none⟩) sn scap) wr∧w.grownBy wr (some cb))∧Hid (x=zgX s d m l i)) (fun v14 _ _=>ln - (intOf v14).toNat)
  case atStart=>exact⟨0,by omega,rfl,HCC,HX0⟩
  case round =>
   obtain⟨i,hi,rfl,HCR,HXI⟩:=hrel
   obtain⟨dr,hbr⟩:=HCR.out.1.blk
   have hkr:=zaa HCR.out.1.below
   have k0:=hbr.cell 0 _ rfl
   have c0:=hkr _ _ HC0.out
   have c1:=hkr _ _ HC1.out
   have kl:=hbr.lt
   have HVR:=hid (HV.out.keep hkr)
   have HFR:=hid (HFT.out.keep hkr)
   clear hkr hbr
   obtain⟨nm,HNM⟩:∃ nm,Hid (nm=(s.getD m .zero).name):=⟨_,rfl⟩
   rw[←HNM.out] at c0
   by_cases hlt:i<ln
   ·
    have hxi:=HXI.out
    rw[zdj,if_neg (by have:=HL.out;omega)] at hxi
    rcases zbC (s.getD m .zero).fields l i with ⟨c,hc,e,hc256⟩|⟨r,h1,h2,h3,h4,-,hcase⟩
    ·
     rw[e,if_pos hc] at hxi
     obtain rfl:x=(i,c):=hxi
     have HE:=hid e
     have ec:((c:Int) != 0)=true:=by simp;omega
     have HCNZ:=hid hc
     have w1:IntKind.i64.wrap ((fr:Int)+(i:Int))=fr+i:=IntWalk.i64_in _ (by omega)
     clear e hc
     go_wp2_with (go_at_call 175;refine (zio HVR.out HFR.out nm i (by omega) c HE.out).mono ?_;rintro e w1 ⟨rfl,hb1⟩;unfold zc4 Rec.none)
     go_ret2
     refine⟨ret2 (zdm (k:=.i64) (a:=(fr:Int)+i) ?_) rfl,(HCR.out.1.later hb1).later ((Below.refl _ _).alloc (Nat.le_refl _) _),zcO (zcO HCR.out.2 hb1) ((Below.refl _ _).alloc (Nat.le_refl _) _)⟩
     first|rfl|(rw[if_neg HCNZ.out];simp)
    ·
     rcases hcase with e|⟨k,run,hk,e,hkn,hrun,hnr⟩
     ·
      rw[e,if_neg (by simp)] at hxi
      have hv0:zgW (zlZ s d) (decide (d=0)) (s.getD m .zero).fields l (r,-1,false,0)=(0,0):=rfl
      rw[hv0,if_neg (by simp)] at hxi
      have HX1:=hid hxi
      have HE:=hid e
      have HR4:=hid (show i<r.to∧r.to≤ln by rw[HL.out];omega)
      clear e hxi h1 h2 h3 h4
      obtain⟨r1,r2,r3,r4,r5⟩:=r
      go_wp2_with (go_at_call 175;refine (ze5 HVR.out HFR.out nm i (by omega) _ _ _ HE.out).mono ?_;rintro e w1 ⟨rfl,hb1⟩;unfold zc4;have HC1':=hid ((HCR.out.1.later hb1).later ((Below.refl w1.heap.size w1).alloc (Nat.le_refl _) (.cells #[.int .i64 r1,.int .i64 r2,.int .i64 r3,.int .i64 r4,.int .i64 r5,.int .i64 (-1),.bool false] 212)));have HG1:=hid (zcO (zcO HCR.out.2 hb1) ((Below.refl w1.heap.size w1).alloc (Nat.le_refl _) (.cells #[.int .i64 r1,.int .i64 r2,.int .i64 r3,.int .i64 r4,.int .i64 r5,.int .i64 (-1),.bool false] 212)));have HNB:=hid (Blk.new w1 [.int .i64 r1,.int .i64 r2,.int .i64 r3,.int .i64 r4,.int .i64 r5,.int .i64 (-1),.bool false] 212);have hcl:cb<w1.heap.size:=(Nat.lt_of_lt_of_le kl hb1.size);clear hb1)
      refine (zf0 m depth fr ⟨r1,r2,r3,r4,r5⟩ HC1'.out _).mono ?_
      rintro e w3 ⟨⟨p,rfl,-⟩,hC3,hg3⟩
      have v4:=(HNB.out.grown hg3 (by omega)).cell 4 _ rfl
      have HC3:=hid (And.intro hC3 (zbq HG1.out hg3))
      clear hC3 hg3
      go_wp2
      go_roundw
      case rel=>exact⟨r5,HR4.out.2,rfl,HC3,HX1⟩
      case measure=>have h9:=HR4.out;simp[intOf];omega
     ·
      rw[e,if_neg (by simp)] at hxi
      have HE:=hid e
      have HR4:=hid (show r.start<r.at'∧r.at'≤r.to∧r.to≤l.length∧i<r.to∧r.to≤ln by rw[HL.out];omega)
      have HXI2:=hid hxi
      have HRU:=hid (fun h=>(hrun h).2.1)
      have HK:=hid hk
      clear e hxi h1 h2 h3 h4 hrun hnr hkn hk
      obtain⟨r1,r2,r3,r4,r5⟩:=r
      obtain⟨y,HY⟩:∃ y,Hid (y=zgW (zlZ s d) (decide (d=0)) (s.getD m .zero).fields l (⟨r1,r2,r3,r4,r5⟩,(k:Int),run,0)):=⟨_,rfl⟩
      have hx2:=HXI2.out
      rw[←HY.out] at hx2
      have HX2:=hid hx2
      clear hx2 HXI2
      go_wp2_with (go_at_call 175;refine (ze5 HVR.out HFR.out nm i (by omega) _ _ _ HE.out).mono ?_;rintro e w1 ⟨rfl,hb1⟩;unfold zc4;have HC1':=hid ((HCR.out.1.later hb1).later ((Below.refl w1.heap.size w1).alloc (Nat.le_refl _) (.cells #[.int .i64 r1,.int .i64 r2,.int .i64 r3,.int .i64 r4,.int .i64 r5,.int .i64 k,.bool run] 212)));have HG1:=hid (zcO (zcO HCR.out.2 hb1) ((Below.refl w1.heap.size w1).alloc (Nat.le_refl _) (.cells #[.int .i64 r1,.int .i64 r2,.int .i64 r3,.int .i64 r4,.int .i64 r5,.int .i64 k,.bool run] 212)));have HNB:=hid (Blk.new w1 [.int .i64 r1,.int .i64 r2,.int .i64 r3,.int .i64 r4,.int .i64 r5,.int .i64 k,.bool run] 212);have hcl:cb<w1.heap.size:=(Nat.lt_of_lt_of_le kl hb1.size);clear hb1)
      have hval:=zgZ HS.out hs d m depth fr hm HV.out (by have:=HL.out;omega) hd HRE.out ⟨r1,r2,r3,r4,r5⟩ HR4.out.1 HR4.out.2.1 HR4.out.2.2.1 k HK.out run HRU.out HC1'.out
      rw[←HY.out] at hval
      refine hval.mono ?_
      rintro e w3 ⟨⟨p,rfl,hp⟩,hC3,hg3⟩
      have v4:=(HNB.out.grown hg3 (by omega)).cell 4 _ rfl
      have HC3:=hid (And.intro hC3 (zbq HG1.out hg3))
      have HP:=hid hp
      clear hC3 hg3 hp hval
      obtain⟨y1,y2⟩:=y
      by_cases hy:y2=0
      ·
       subst hy
       have HX3:Hid (x=zgX s d m l r5):=by rw[Hid,HX2.out,if_neg (by simp)]
       go_wp2
       go_roundw
       case rel=>exact⟨r5,HR4.out.2.2.2.2,rfl,HC3,HX3⟩
       case measure=>have h9:=HR4.out;simp[intOf];omega
      ·
       obtain rfl:x=(y1,y2):=by rw[HX2.out,if_pos hy]
       have ey:((y2:Int) != 0)=true:=by simp;omega
       have HYN:=hid hy
       obtain rfl:p=fr+y1:=HP.out hy
       clear hy
       go_wp2
       go_ret2
       refine⟨ret2 (zdm (k:=.i64) (a:=((fr+y1:Nat):Int)) ?_) rfl,HC3.out.1,HC3.out.2⟩
       first|rfl|(rw[if_neg HYN.out])
   ·
    obtain rfl:i=ln:=by omega
    obtain rfl:x=(0,0):=by rw[HXI.out,zdj,if_pos (by rw[HL.out];exact Nat.le_refl _)]
    go_wp2
    go_ret2
    exact⟨ret2 (zdm (k:=.i64) (a:=0) (by simp)) rfl,HCR.out.1,HCR.out.2⟩
theorem zgs {w0:World}{cb:Nat}{sv:Value}{s:List Mes}(hS:zap w0 sv s)(hs:zaw s=true):∀ d,MsgC w0 cb sv s d
 | 0=>zdS hS hs 0 (fun h=>absurd rfl h)
 | d+1=>zdS hS hs (d+1) (fun _=>zgs hS hs d)
end
section
open Go.RowKit
def zaP (s:List Mes)(root:Int)(l:List UInt8)(d:Int):Nat × Nat:=
 if zbl s root d≠0 then (0,zbl s root d) else (if (zdb s d.toNat root.toNat l).2=0 then 0 else (zdb s d.toNat root.toNat l).1,(zdb s d.toNat root.toNat l).2)
theorem zqI {s:List Mes}{root d:Int}(h:zbl s root d=0):zaw s=true∧0≤root∧root<s.length∧0≤d∧d≤64:=by
 unfold zbl at h
 by_cases h1:zaw s=false
 ·
  rw[if_pos h1] at h;omega
 rw[if_neg h1] at h
 by_cases h2:root<0∨(s.length:Int)≤root∨d<0∨64<d
 ·
  rw[if_pos h2] at h;omega
 exact⟨by simpa using h1,by omega,by omega,by omega,by omega⟩
theorem zjW (s:List Mes)(root d:Int):zbl s root d=0∨zbl s root d=9∨zbl s root d=2:=by
 unfold zbl
 split
 ·
  exact .inr (.inl rfl)
 ·
  split
  ·
   exact .inr (.inr rfl)
  ·
   exact .inl rfl
theorem znn {w:World}{vs vb:Value}{s:List Mes}{l:List UInt8}(hS:zap w vs s)(hb:zal w vb l)(root d:Int) :
  Calls Tryz.prog 87 #[vs,.int .i64 root,vb,.int .i64 d] w fun e w'=>(∃ n:Int,e= .returned (.tuple #[.int .i64 (zaP s root l d).1,.int .i64 n,.int .u8 (zaP s root l d).2]))∧Below w.heap.size w w':=by
 have HA:=hid (zo9 hS root d)
 rcases zjW s root d with h|h|h
 ·
  obtain⟨g1,g2,g3,g4,g5⟩:=zqI h
  obtain⟨m,rfl⟩:∃ m:Nat,root=m:=⟨root.toNat,by omega⟩
  obtain⟨k,rfl⟩:∃ k:Nat,d=k:=⟨d.toNat,by omega⟩
  obtain⟨x,HX⟩:∃ x,Hid (x=zdb s k m l):=⟨_,rfl⟩
  have hx:zaP s m l k=(if x.2=0 then 0 else x.1,x.2):=by
   unfold zaP
   rw[if_neg (by rw[h];decide),HX.out];rfl
  obtain⟨z,HZ⟩:∃ z:Nat,Hid (z=if x.2=0 then 0 else x.1):=⟨_,rfl⟩
  rw[hx,←HZ.out]
  rw[h] at HA
  clear hx h
  obtain⟨hslen,sa,scap,rfl,-⟩:=hS.open
  obtain⟨hbl,va,vcap,rfl,-,-,-,-⟩:=hb.open
  obtain⟨ln,HL⟩:∃ ln,Hid (ln=l.length):=⟨_,rfl⟩
  rw[←HL.out] at hbl hb ⊢
  obtain⟨sn,HSN⟩:∃ sn,Hid (sn=s.length):=⟨_,rfl⟩
  rw[←HSN.out] at hslen hS HA ⊢
  have HS:=hid hS
  have HB:=hid hb
  have H3:=hid g3
  clear g3 hS hb
  go_enter Tryz.func87,Tryz.ntmps87
  go_wp2_with (go_at_call 121;refine HA.out.mono ?_;rintro e w1 ⟨rfl,hb1⟩)
  have HC:=hid (show Chk w w1.heap.size (.slice sa sn scap) (w1.alloc (.cells #[.slice sa sn scap,.int .i64 0] 206)) from ⟨hb1.size,hb1.alloc hb1.size _,⟨0,Blk.new w1 [.slice sa sn scap,.int .i64 0] _⟩⟩)
  have hM:=zgs HS.out g1 k m 0 0 0 0 k _ _ l rfl rfl (by omega) (by have:=H3.out;omega) HC.out HB.out (by rw[←HL.out];omega) (by omega)
  rw[←HX.out] at hM
  refine hM.mono ?_
  rintro e w2 ⟨rfl,hC2,hg2⟩
  obtain⟨dd,hbk⟩:=hC2.blk
  have b1:=hbk.cell 1 _ rfl
  have hle:=hbk.lt
  have HW2:=hid hC2.below
  clear hbk hC2 hg2 hb1 hM
  simp only[Nat.zero_add]
  rw[←HZ.out]
  obtain⟨x1,x2⟩:=x
  simp only
  go_wp2_with fail
  go_quiet (fail)
  go_wp2
  go_ret3
  exact⟨⟨_,rfl⟩,zab HW2.out _⟩
 all_goals
  have hx:zaP s root l d=(0,zbl s root d):=by
   unfold zaP
   rw[if_pos (by rw[h];decide)]
  rw[hx,h]
  rw[h] at HA
  clear hx
  go_enter Tryz.func87,Tryz.ntmps87
  go_wp2_with (go_at_call 121;refine HA.out.mono ?_;rintro e w1 ⟨rfl,hb1⟩)
  go_ret3
  exact⟨⟨0,rfl⟩,hb1⟩
theorem ziq {w:World}{vs vb:Value}{s:List Mes}{l:List UInt8}(hS:zap w vs s)(hb:zal w vb l)(root d:Int) :
  Calls Tryz.prog 54 #[vs,.int .i64 root,vb,.int .i64 d] w fun e w'=>e= .returned (.tuple #[.int .i64 (zaP s root l d).1,.int .u8 (zaP s root l d).2])∧Below w.heap.size w w':=by
 go_enter Tryz.func54,Tryz.ntmps54
 go_wp2_with (go_at_call 87;refine (znn hS hb root d).mono ?_;rintro e w1 ⟨⟨n,rfl⟩,hb1⟩)
 go_ret2
 exact⟨rfl,hb1⟩
end
section
open Go.RowKit
end
end Go.Proofs.YtpckoeicbjfnhaaGreatDoor
