/- Parts of a proof: texts of the author, merged. No condition of their own. -/
import Derived.Test.YtdpnmdkbdibkpaaGreatDoorShelf
import Derived.Test.YtdpnmdkbdibkpaaGreatDoorZ01
import Derived.Test.YtdpnmdkbdibkpaaGreatDoorZ07
import Derived.Test.YtdpnmdkbdibkpaaGreatDoorZ08
import Derived.Test.YtdpnmdkbdibkpaaGreatDoorZ09
import Derived.Test.YtdpnmdkbdibkpaaGreatDoorZ10
import Derived.Deep.AppendSrc
import Derived.Maps.AppendAt
import Derived.OwnWalk
import Derived.OwnWalkIn
namespace Go.Proofs.YtdpnmdkbdibkpaaGreatDoor
set_option maxRecDepth 100000
set_option maxHeartbeats 16000000
section
def mOf (l:List (List Int)):List (List Int):=rOf l l.length
theorem zdK (l:List (List Int)):zeJ l (mOf l):=zlp l
theorem zlr (w:List Int):∀ o,(znu w o).length=o.length+1
 | []=>rfl
 | u::r=>by
  rw[znu]
  split
  ·
   simp[zlr w r]
  ·
   simp
theorem zny (l:List (List Int)):∀ n,(rOf l n).length≤n
 | 0=>by simp[rOf]
 | n+1=>by
  have:=zny l n
  rw[rOf]
  split
  ·
   rw[zlr];omega
  ·
   omega
theorem zpX (l:List (List Int)):(mOf l).length≤l.length:=zny l _
def zd0 (n:Int)(l:List Int):Bool:=decide (l=[n])
def zbd (l:List (List Int))(n:Int):List (List Int):=(l.filter (fun w=>decide (1<w.length)&&decide (w.head?=some n))).map List.tail
theorem zgS (l:List (List Int))(n:Int)(w:List Int):w∈zbd l n↔w≠[]∧n::w∈l:=by
 unfold zbd
 simp only[List.mem_map,List.mem_filter,Bool.and_eq_true,decide_eq_true_eq]
 constructor
 ·
  rintro⟨v,⟨h1,h2,h3⟩,rfl⟩
  cases v with
  | nil=>simp at h2
  | cons x v =>
   simp at h2 h3
   subst h3
   exact⟨fun e=>by simp at e;subst e;simp at h2,h1⟩
 ·
  rintro⟨h1,h2⟩
  exact⟨n::w,⟨h2,by have:=List.length_pos_iff.2 h1;simp;omega,rfl⟩,rfl⟩
theorem zjD {l:List (List Int)}(h:l.Pairwise (fun a b=>ltW a b=true))(n:Int):(zbd l n).Pairwise (fun a b=>ltW a b=true):=by
 unfold zbd
 rw[List.pairwise_map]
 refine List.Pairwise.imp_of_mem ?_ (h.filter _)
 intro a b ha hb hab
 have ha':=(List.mem_filter.1 ha).2
 have hb':=(List.mem_filter.1 hb).2
 simp only[Bool.and_eq_true,decide_eq_true_eq] at ha' hb'
 cases a with
 | nil=>simp at ha'
 | cons x a =>
  cases b with
  | nil=>simp at hb'
  | cons y b =>
   simp at ha' hb'
   obtain⟨-,rfl⟩:=ha'
   obtain⟨-,rfl⟩:=hb'
   simpa [ltW] using hab
theorem zh4 (l:List (List Int))(n:Int):mOf (zbd (mOf l) n)=zbd (mOf l) n:=by
 refine (zdK _).one ⟨zjD (zdK l).1 n,fun w=>⟨fun hw=>?_,fun hw=>hw.1⟩⟩
 obtain⟨h1,h2⟩:=(zgS _ _ _).1 hw
 refine⟨hw,h1,fun u hu hn hp=>?_⟩
 obtain⟨g1,g2⟩:=(zgS _ _ _).1 hu
 have e:=(((zdK l).2 _).1 h2).2.2 (n::u) (((zdK l).2 _).1 g2).1 (by simp) (by rw[List.cons_prefix_cons];exact⟨rfl,hp⟩)
 exact (List.cons.inj e).2
end
section
open Go.RowKit
def zoU (w:World)(r:List Value)(l:List Int):Prop:=∃ v,r=[v]∧zar w v l
def zaM (w:World)(v:Value)(ls:List (List Int)):Prop:=zca zoU 1 w v ls
theorem zoU.keep {w w':World}{r:List Value}{l:List Int}(h:zoU w r l)(hk:∀ p u,w.cell? p=some u→w'.cell? p=some u):zoU w' r l:=let ⟨v,h1,h2⟩:=h;⟨v,h1,h2.keep hk⟩
theorem zaM.keep {w w':World}{v:Value}{ls:List (List Int)}(h:zaM w v ls)(hk:∀ p u,w.cell? p=some u→w'.cell? p=some u):zaM w' v ls:=zca.keep h hk fun _ _ hx=>hx.keep hk
theorem zaM.below {w w':World}{v:Value}{ls:List (List Int)}(h:zaM w v ls)(hb:Below w.heap.size w w'):zaM w' v ls:=h.keep (zaa hb)
theorem zaM.open {w:World}{v:Value}{ls:List (List Int)}(h:zaM w v ls) :
  ls.length≤140737488355328∧∃ a cap,v= .slice a ls.length cap∧(a=none→cap=0)∧∀ k l,ls[k]?=some l→∃ b o a2 c2,a=some ⟨b,o,none⟩∧w.cell? ⟨b,o+k,none⟩=some (.slice a2 l.length c2)∧zar w (.slice a2 l.length c2) l:=by
 obtain⟨h1,a,cap,h2,h3,h4⟩:=zca.open (by decide) h
 refine⟨h1,a,cap,h2,h3,fun k l hl=>?_⟩
 obtain⟨b,o,r,ha,-,hc,v',rfl,hI⟩:=h4 k l hl
 have hI':=hI
 obtain⟨-,a2,c2,rfl,-,-⟩:=hI'.open
 have:=hc 0 _ rfl
 rw[Nat.mul_one,Nat.add_zero] at this
 exact⟨b,o,a2,c2,ha,this,hI⟩
theorem zcT (w:World):(sizeOf 28).run Tryz.prog w= .ok 1 w:=by kernel_rfl
theorem zcH:Tryz.prog.underlying 67=some (.slice 28):=Tryz.underlying67
theorem ze7:(Tryz.prog.info? 28).map (fun i=>(i.zero,i.size,i.bytes))=some (some (.slice none 0 0),1,24):=by kernel_rfl
theorem zeS {ls:List (List Int)}{n i:Nat}(hn:n=ls.length)(h:i<n):∃ x,ls[i]?=some x:=⟨_,List.getElem?_eq_getElem (by omega)⟩
theorem zjE {l m:List (List Int)}{i:Nat}{x y:List Int}(hx:l[i]?=some x)(hy:m[i]?=some y):(l.drop i=m.drop i)↔x=y∧l.drop (i+1)=m.drop (i+1):=by
 rw[zbS hx,zbS hy,List.cons.injEq]
end
section
open Go.RowKit
theorem any_at {α:Type}{p:α→Bool}{l:List α}{i:Nat}{x:α}(h:l[i]?=some x):(l.drop i).any p=(p x||(l.drop (i+1)).any p):=by
 rw[zbS h];rfl
theorem zpY {α:Type}{p:α→Bool}{l:List α}{i:Nat}(h:l.length≤i):(l.drop i).any p=false:=by
 rw[List.drop_eq_nil_of_le h];rfl
def znz (z:Bool)(w:World)(e:Ending)(w':World):Prop:=∃ r:Int,e= .returned (.int .i64 r)∧decide (0≤r)=z∧zd8 w w'
theorem zhF {w:World}{v:Value}{ls:List (List Int)}(h:zaM w v ls)(F:Nat)(cap:Array Value)(p:List Int→Bool)(hcf:∀ (args:Array Value) (w:World),(callFunc F args).run Tryz.prog w= .ok (.enter F args) w)
  (hcl:∀ (u:Value) (l:List Int) (wr:World),zar wr u l→zd8 w wr→Calls Tryz.prog F (#[u]++cap) wr fun e w'=>e= .returned (.bool (p l))∧zd8 wr w') :
  Calls Tryz.prog 160 #[v,.func (.func F) #[] cap] w (znz (ls.any p) w):=by
 obtain⟨hlen,a,c,rfl,-,hat⟩:=h.open
 obtain⟨n,HN⟩:∃ n,Hid (n=ls.length):=⟨_,rfl⟩
 rw[←HN.out] at hlen ⊢
 obtain⟨z,HZ⟩:∃ z,Hid (z=ls.any p):=⟨_,rfl⟩
 rw[←HZ.out]
 have HAT:=hid hat
 have HCL:=hid hcl
 clear hat hcl
 go_enter Tryz.func160,Tryz.ntmps160
 go_wp2
 go_loopw [8] (fun v8 wr=>∃ k:Nat,k≤n∧v8= .int .i64 k∧Hid (z=(ls.drop k).any p)∧Hid (zd8 w wr)) (fun v8 _=>n - (intOf v8).toNat)
 case atStart=>exact⟨0,by omega,rfl,by rw[Hid,HZ.out];rfl,zd8.refl _⟩
 case round =>
  obtain⟨k,hk,rfl,HK,HB⟩:=hrel
  by_cases hlt:k<n
  ·
   obtain⟨x,hxi⟩:=zeS HN.out hlt
   obtain⟨b,o,xa,xc,ha,g0,hX⟩:=HAT.out k x hxi
   replace g0:=HB.out.keeps _ _ g0
   have HX:=hid (hX.keep HB.out.keeps)
   have HA:=hid (any_at (p:=p) hxi)
   have hix:=zag Tryz.underlying67 zcT ha k hlt (cap:=c)
   obtain⟨xn,HXN⟩:∃ xn,Hid (xn=x.length):=⟨_,rfl⟩
   rw[←HXN.out] at g0 HX
   clear hxi hX ha
   go_wp2_with fail
   have hcl:=HCL.out
   refine (hcl _ x _ HX.out HB.out).mono ?_
   rintro e w5 ⟨rfl,hb5⟩
   clear hcl
   have HB5:Hid (zd8 w w5):=HB.out.trans hb5
   clear hb5
   cases hp:p x with
   | true =>
    have HE:Hid (z=true):=by rw[Hid,HK.out,HA.out,hp];rfl
    clear hp
    go_wp2
    go_ret
    exact⟨_,rfl,by rw[HE.out];simp,HB5.out⟩
   | false =>
    have HE:Hid (z=(ls.drop (k+1)).any p):=by rw[Hid,HK.out,HA.out,hp];rfl
    clear hp
    go_wp2
    go_roundw
    case rel=>exact⟨k+1,by omega,by go_num,HE.out,HB5.out⟩
    case measure=>simp[intOf];omega
  ·
   have HE:Hid (z=false):=by rw[Hid,HK.out,zpY (by rw[←HN.out];omega)]
   go_wp2
   go_ret
   exact⟨_,rfl,by rw[HE.out];rfl,HB.out⟩
theorem zfu {w:World}{v:Value}{ls:List (List Int)}(h:zaM w v ls)(F:Nat)(cap:Array Value)(p:List Int→Bool)(hcf:∀ (args:Array Value) (w:World),(callFunc F args).run Tryz.prog w= .ok (.enter F args) w)
  (hcl:∀ (u:Value) (l:List Int) (wr:World),zar wr u l→zd8 w wr→Calls Tryz.prog F (#[u]++cap) wr fun e w'=>e= .returned (.bool (p l))∧zd8 wr w') :
  Calls Tryz.prog 138 #[v,.func (.func F) #[] cap] w fun e w'=>e= .returned (.bool (ls.any p))∧zd8 w w':=by
 have HI:=hid (zhF h F cap p hcf hcl)
 obtain⟨-,a,c,rfl,-,-⟩:=h.open
 obtain⟨z,HZ⟩:∃ z,Hid (z=ls.any p):=⟨_,rfl⟩
 rw[←HZ.out] at HI ⊢
 clear h hcl
 go_enter Tryz.func138,Tryz.ntmps138
 go_wp2_with fail
 refine HI.out.mono ?_
 rintro e w1 ⟨r,rfl,hr,hb⟩
 have HR:=hid hr
 have HB:=hid hb
 clear hr hb
 by_cases h0:0≤r
 ·
  have HT:Hid (z=true):=by rw[Hid,←HR.out];exact decide_eq_true h0
  go_wp2_with fail
  go_ret
  exact⟨by rw[HT.out];first|done|rfl,HB.out⟩
 ·
  have HT:Hid (z=false):=by rw[Hid,←HR.out];exact decide_eq_false h0
  have e1:decide (0≤r)=false:=decide_eq_false h0
  go_wp2_with fail
  go_ret
  exact⟨by rw[HT.out];first|done|rfl,HB.out⟩
def zb1 (v:Value):Value:=.agg #[v]
end
section
open Go.RowKit
theorem ziE {P:Program}{w:World}{o:Oper}{a:Act}{K:Act→World→Prop}{Q:Exit→Act→World→Prop}(s x:Operand)(t u:TypeId)
  (ho:o.op= .call { callee:=.builtin .append,args:=#[s,x],argTypes:=#[t,u] }) (v xv:Value) (hs:a.eval s=v) (hx:a.eval x=xv) {v':Value} {w':World}
  (hr:(Builtin.append_ #[t,u] o.type #[v,xv]).run P w= .ok v' w') (h:K (a.put o.dst v') w'):o.wp P a w K Q:=by
 unfold Oper.wp execOp
 simp only[ho,resolve,invoke,builtin,Sem.run_bind,Sem.run_pure,Result.andThen_ok,List.map_toArray,List.map_cons,List.map_nil,hs,hx,hr]
 exact h
theorem zcm {P:Program}{w:World}{ops:Array Oper}{rest:List Oper}{o:Oper}{a:Act}{Q:Exit→Act→World→Prop}(hgd:o.guard=none)(s x:Operand)(t u:TypeId)
  (ho:o.op= .call { callee:=.builtin .append,args:=#[s,x],argTypes:=#[t,u] }) (v xv:Value) (hs:a.eval s=v) (hx:a.eval x=xv) {v':Value} {w':World}
  (hr:(Builtin.append_ #[t,u] o.type #[v,xv]).run P w= .ok v' w') (h:wpList P ops Q rest (a.put o.dst v') w'):wpList P ops Q (o::rest) a w:=
 wpList_plain hgd fun _ hK=>ziE s x t u ho v xv hs hx hr (hK _ _ h)
theorem zeT {F:Fence}{n:Nat}{P:Program}{w:World}{ops:Array Oper}{rest:List Oper}{o:Oper}{a:Act}{Q:Exit→Act→World→Prop}(hgd:o.guard=none)(s x:Operand)(t u:TypeId)
  (ho:o.op= .call { callee:=.builtin .append,args:=#[s,x],argTypes:=#[t,u] }) (v xv:Value) (hs:a.eval s=v) (hx:a.eval x=xv) {v':Value} {w':World}
  (hr:(Builtin.append_ #[t,u] o.type #[v,xv]).run P w= .ok v' w') (h:wpListIn F n P ops Q rest (a.put o.dst v') w'):wpListIn F n P ops Q (o::rest) a w:=by
 refine wpListIn_plain hgd fun K hK=>?_
 unfold Oper.wpIn
 refine⟨?_,?_⟩
 ·
  simp[Oper.about,ho,resolve,Target.leads,Sem.run_pure]
 ·
  rw[Oper.semAt_plain F _ _ (by rw[ho];intro c hc';cases hc')]
  simp[execOp,ho,resolve,invoke,builtin,hs,hx,hr,Result.andThen]
  exact hK _ _ h
end
section
open Go.RowKit
theorem zjF {w:World}{q:Nat}{u:Value}{x:Int}{l:List Int}(hq:w.cell? ⟨q,0,none⟩=some (.int .i64 x))(hu:zar w u l) :
  Calls Tryz.prog 139 #[u,.pointer (some ⟨q,0,none⟩)] w fun e w'=>e= .returned (.bool (zd0 x l))∧zd8 w w':=by
 obtain⟨-,a2,c2,rfl,-,hat⟩:=hu.open
 match l,hat with
 | [],_ =>
  go_enter Tryz.func139,Tryz.ntmps139
  go_wp2_with fail
  go_quiet (fail)
  go_wp2_with fail
  go_ret
  exact⟨rfl,zd8.at_drewN _ _⟩
 | [y],hat =>
  obtain⟨-,b,o,ha,g0⟩:=hat 0 y rfl
  have hix:=zir Tryz.underlying28 zbr ha (by decide:0<1) (cap:=c2)
  rw[Nat.add_zero] at g0
  clear hat ha
  by_cases hxy:y=x
  ·
   subst hxy
   go_enter Tryz.func139,Tryz.ntmps139
   go_wp2_with fail
   go_quiet (fail)
   go_wp2_with fail
   go_ret
   exact⟨by simp[zd0],zd8.at_drewN _ _⟩
  ·
   have e1:(y == x)=false:=by simpa using hxy
   have HE:Hid (zd0 x [y]=false):=by simp[Hid,zd0,hxy]
   clear hxy
   go_enter Tryz.func139,Tryz.ntmps139
   go_wp2_with fail
   go_quiet (fail)
   go_wp2_with fail
   go_ret
   exact⟨by rw[HE.out];first|done|rfl,zd8.at_drewN _ _⟩
 | y::y2::r,_ =>
  obtain⟨n,HN⟩:∃ n,Hid (n=(y::y2::r).length):=⟨_,rfl⟩
  have HE:Hid (zd0 x (y::y2::r)=false):=by simp[Hid,zd0]
  rw[HE.out,←HN.out]
  have e1:((n:Int) == 1)=false:=by have:=HN.out;simp at this;simp;omega
  have e2:decide ((n:Int)=1)=false:=by have:=HN.out;simp at this;simp;omega
  have e3:(n == 1)=false:=by have:=HN.out;simp at this;simp;omega
  clear hat hu
  go_enter Tryz.func139,Tryz.ntmps139
  go_wp2_with fail
  go_quiet (fail)
  go_wp2_with fail
  go_ret
  exact⟨rfl,zd8.at_drewN _ _⟩
def zfv (w:World)(base:Nat)(v:Value)(vs:List Value):Prop:=w.ownsRow base 28 1 v vs.length vs
theorem zl9 {w:World}{v:Value}{vs:List Value}(h:Seg w v 1 vs.length vs)(h1:∀ u∈vs,u.oneCell'=true)(hl:vs.length≤1099511627776) :
  Calls Tryz.prog 41 #[v] w fun e w'=>∃ v',e= .returned v'∧zfv w' w.heap.size v' vs∧Below w.heap.size w w':=by
 have H:=hid h
 obtain⟨-,-,a,cap,rfl,-,-,hnil,-⟩:=h
 obtain⟨n,HN⟩:∃ n,Hid (n=vs.length):=⟨_,rfl⟩
 rw[←HN.out] at hl H ⊢
 cases a with
 | none =>
  have:=hnil rfl
  have HE:Hid (vs=[]):=List.eq_nil_of_length_eq_zero (by have:=HN.out;obtain⟨-,-,a',c',e,h1,-⟩:=H.out;cases e;omega)
  clear hl
  go_enter Tryz.func41,Tryz.ntmps41
  have eqn:=fun W a n c n' c'=>Lib.run_eql_slice_nil (P:=Tryz.prog) W 67 _ a n c n' c' zcH
  go_wp2
  go_ret
  refine⟨_,rfl,?_,Below.refl _ _⟩
  rw[HE.out]
  exact World.ownsRow_nil _ _ _ _
 | some ad =>
  have hO:zfv (w.alloc (.cells #[] 28)) w.heap.size (.slice (some ⟨w.heap.size,0,none⟩) 0 0) []:=by
   exact World.ownsRow_made (base:=w.heap.size) (e:=28) (size:=1) w #[] 0 (Nat.le_refl _) (by unfold maxLen;omega) rfl
  obtain⟨v',w',hr,hO',hg,-⟩:=zbb (P:=Tryz.prog) _ w.heap.size 67 67 28 (.slice none 0 0) 1 24 zcH ze7 rfl (by decide) _ _ _ n _ _ hO (H.out.below ((Below.refl _ _).alloc (Nat.le_refl _) _))
   h1 (by simp;omega) (by simp;omega) (by simp)
  have hg':Below w.heap.size w w':=((Below.refl w.heap.size w).alloc (Nat.le_refl _) (.cells #[] 28)).grown hg (by simp) (by intro q e;simp[Value.ownBlock] at e;omega)
  have HO:Hid (zfv w' w.heap.size v' vs):=by
   unfold Hid zfv;rw[←HN.out];simpa using hO'
  have HG:=hid hg'
  clear hO' hg' hg hO h1
  go_enter Tryz.func41,Tryz.ntmps41
  have eqn:=fun W a n c n' c'=>Lib.run_eql_slice_nil (P:=Tryz.prog) W 67 _ a n c n' c' zcH
  go_wp2_with (at_builtin;refine zaf rfl _ _ _ rfl _ _ rfl rfl hr ?_)
  go_ret
  exact⟨_,rfl,HO.out,HG.out⟩
end
section
open Go.RowKit Go.Sort Go.Shelf
theorem zcU {α:Type}[Inhabited α](enc:α→Value){H blk off m:Nat}{w0 w:World}(hb:Go.RowKit.Below H w0 w)(hg:H≤blk)(hH:H≤w.heap.size)(dk:Array α)(os:Array Obj) :
  Go.RowKit.Below H w0 (sortWorld enc w blk off m dk os):=by
 refine⟨hb.os,hb.tape,hb.output,?_,fun k hk=>?_⟩
 ·
  refine Nat.le_trans hb.size ?_
  rw[sortWorld,size_grow,size_putRow]
  exact Nat.le_add_right _ _
 ·
  rw[sortWorld,heap_grow_old _ _ (by rw[size_putRow];exact Nat.lt_of_lt_of_le hk hH)]
  refine Eq.trans ?_ (hb.block k hk)
  rw[putRow,mapBlock]
  show (w.heap.modify blk _)[k]?=_
  rw[Array.getElem?_modify,if_neg (by omega)]
def WV (w:World):Type:={ p:Value × List Int // zar w p.1 p.2 }
def WV.val {w:World}(p:WV w):Value:=p.1.1
def WV.way {w:World}(p:WV w):List Int:=p.1.2
def WV.mk {w:World}(v:Value)(x:List Int)(h:zar w v x):WV w:=⟨(v,x),h⟩
theorem WV.way_mk {w:World}(v:Value)(x:List Int)(h:zar w v x):(WV.mk v x h).way=x:=rfl
theorem WV.val_mk {w:World}(v:Value)(x:List Int)(h:zar w v x):(WV.mk v x h).val=v:=rfl
theorem WV.one {w:World}(p:WV w):(WV.val p).oneCell'=true:=by
 obtain⟨-,a,c,h,-⟩:=p.2.open
 unfold WV.val
 rw[h];rfl
theorem zma (a b c:List Int)(h1:ltW a b=false)(h2:ltW b c=false):ltW a c=false:=by
 cases h:ltW a c with
 | false=>rfl
 | true =>
  cases hba:ltW b a with
  | true=>rw[zdo b a c hba h] at h2;cases h2
  | false =>
   have e:=ze6 a b h1 hba
   subst e
   rw[h] at h2;cases h2
def zpZ {w:World}(x y:WV w):Int:=zjA x.way y.way
theorem zey {w:World}(x y:WV w):ltOf (zpZ (w:=w)) x y=ltW x.way y.way:=zpV _ _
theorem swo_WV (w:World):SWO (ltOf (zpZ (w:=w))) where
 irrefl x:=by rw[zey];exact zcl _
 trans x y z h1 h2:=by rw[zey] at *;exact zdo _ _ _ h1 h2
 ntrans x y z h1 h2:=by rw[zey] at *;exact zma _ _ _ h1 h2
theorem zgT {α:Type}[Inhabited α]{R:α→α→Prop}(l:List α)(h:∀ i j,i<j→j<l.length→R l.toArray[i]! l.toArray[j]!):l.Pairwise R:=by
 rw[List.pairwise_iff_getElem]
 intro i j hi hj hij
 have:=h i j hij hj
 rwa [getElem!_pos l.toArray i (by simpa using hi),getElem!_pos l.toArray j (by simpa using hj)] at this
theorem znA {w0 w:World}{base:Nat}{v:Value}(ps:List (WV w0))(hne:ps≠[])(hO:zfv w base v (ps.map WV.val))(hbase:w0.heap.size≤base)(hb:Go.RowKit.Below w0.heap.size w0 w)(hlen:ps.length≤1099511627776) :
  Calls Tryz.prog 42 #[v,.func (.func 43) #[] #[]] w fun e w'=>e= .returned (.tuple #[]) ∧
   ∃ ps':List (WV w0),ps'.Perm ps∧(ps'.map WV.way).Pairwise (fun a b=>ltW b a=false)∧Seg w' v 1 ps'.length (ps'.map WV.val)∧Go.RowKit.Below w0.heap.size w0 w':=by
 haveI:Inhabited (WV w0):=⟨ps.head hne⟩
 have hpos:0<ps.length:=List.length_pos_iff.2 hne
 obtain⟨h1,hx⟩:=hO
 rcases hx with ⟨-,h2⟩|⟨g,cap,cur,rfl,hg,hc,hnc,hcm,hcs,ht⟩
 ·
  simp at h2;exact absurd h2 hne
 have hcell:∀ j (x:WV w0),ps[j]?=some x→w.cell? ⟨g,j,none⟩=some x.val:=by
  intro j x hj
  rw[cell_of_row _ _ _ cur _ (0,0) hc]
  have hjl:j<ps.length:=(List.getElem?_eq_some_iff.1 hj).1
  have e:(cur.toList.take ((ps.map WV.val).length*1))[j]?=(ps.map WV.val)[j]?:=by rw[ht]
  rw[List.getElem?_take,if_pos (by simpa using hjl)] at e
  rw[←Array.getElem?_toList,e]
  simp[hj]
 have hget:∀ j,j<ps.length→ps[j]?=some ps.toArray[j]!:=fun j hj=>by
  rw[getElem!_pos ps.toArray j (by simpa using hj),List.getElem?_eq_getElem hj];simp
 have hH:Holds WV.val w g 0 ps.toArray:=fun j hj=>by
  have hj':j<ps.length:=by simpa using hj
  rw[Nat.zero_add]
  refine⟨hcell j _ (hget j hj'),?_⟩
  unfold World.frozen?
  rw[hc];simp
 have hgl:g<w.heap.size:=(Array.getElem?_eq_some_iff.1 hc).1
 have hH0:w0.heap.size≤w.heap.size:=hb.size
 have key:=Any.slices_SortFunc Tryz.laysSF WV.val WV.one (zpZ (w:=w0)) (swo_WV w0) 43 #[] g 0 cap ps.toArray w (fun args w=>by simp[go_sem])
  (fun m os dk _ x y=>(zjC ((x.2).keep (zaa (zcU WV.val hb (Nat.le_trans hbase hg) hH0 dk os))) ((y.2).keep (zaa (zcU WV.val hb (Nat.le_trans hbase hg) hH0 dk os)))).mono
   fun e w' ⟨he,hw⟩=>⟨he,0,#[],by rw[hw,grow_empty];rfl⟩)
  hH hgl (by simp;omega)
 have key2:Calls Tryz.prog 42 #[.slice (some ⟨g,0,none⟩) ps.length cap,.func (.func 43) #[] #[]] w _:=key
 rw[List.length_map]
 refine key2.mono ?_
 rintro e w' ⟨rfl,d',n,os,hp,hs,rfl⟩
 obtain⟨hp1,-,hp3⟩:=hp
 have hsz:d'.toList.length=ps.length:=by simpa using hp1
 have hd:d'=d'.toList.toArray:=by simp
 refine⟨rfl,d'.toList,?_,?_,⟨by simp,by rw[hsz];omega,some ⟨g,0,none⟩,cap,by rw[hsz],by rw[hsz];simpa using hnc,by unfold maxLen at hcm;omega,by simp,fun j u hu=>⟨g,0,rfl,?_⟩⟩,zcU WV.val hb (Nat.le_trans hbase hg) hH0 d' os⟩
 ·
  have e1:(d'.extract 0 ps.toArray.size).toList=d'.toList:=by
   rw[Array.toList_extract];simp[←hsz];exact List.take_of_length_le (by simp)
  have e2:(ps.toArray.extract 0 ps.toArray.size).toList=ps:=by simp
  rwa [e1,e2] at hp3
 ·
  rw[List.pairwise_map]
  refine zgT _ fun i j hij hj=>?_
  have:=hs i j (Nat.zero_le _) hij (by simpa [hsz] using hj)
  rw[zey] at this
  simpa using this
 ·
  have hj:j<d'.size:=by
   have:=(List.getElem?_eq_some_iff.1 hu).1
   simpa using this
  have hh:=holds_sortWorld WV.val w g 0 n ps.toArray d' os hgl hH (by simpa using hp1) j hj
  rw[hh.1]
  rw[List.getElem?_map] at hu
  rw[←hu,getElem!_pos d' j hj]
  simp[hj]
theorem zkB (a:Option Addr)(c:Nat)(fv:Value)(w:World) :
  Calls Tryz.prog 107 #[.slice a 0 c,.int .i64 0,.int .i64 0,fv] w fun e w'=>e= .returned (.tuple #[])∧w=w':=by
 go_enter Tryz.func107,Tryz.ntmps107
 go_wp2
 refine wp_loop_rounds 1 ?_
 rw[rounds_succ]
 go_wp2
 go_end0
 exact⟨rfl,rfl⟩
theorem zoV (a:Option Addr)(c:Nat)(lim:Int)(fv:Value)(w:World) :
  Calls Tryz.prog 75 #[.slice a 0 c,.int .i64 0,.int .i64 0,.int .i64 lim,fv] w fun e w'=>e= .returned (.tuple #[])∧w=w':=by
 go_enter Tryz.func75,Tryz.ntmps75
 go_wp2
 refine wp_loop_rounds 1 ?_
 rw[rounds_succ]
 go_wp2_with (go_at_call 107;refine (zkB _ _ _ _).mono ?_;rintro e w' ⟨rfl,rfl⟩)
 (try simp only[Exit.inBlock,Exit.then]);refine bodyPost_ret (results_none rfl _ _ _) rfl ?_
 exact⟨rfl,rfl⟩
theorem znB (a:Option Addr)(c:Nat)(F:Nat)(w:World) :
  Calls Tryz.prog 42 #[.slice a 0 c,.func (.func F) #[] #[]] w fun e w'=>e= .returned (.tuple #[])∧w=w':=by
 go_enter Tryz.func42,Tryz.ntmps42
 go_wp2_with (first|(go_at_call 76;refine (Tryz.bits_Len 0 _ (by omega) (by omega)).mono ?_;rintro e w' ⟨rfl,rfl⟩)|(go_at_call 75;refine (zoV _ _ _ _ _).mono ?_;rintro e w' ⟨rfl,rfl⟩))
 go_end0
 exact⟨rfl,rfl⟩
theorem ziF {w0 w:World}{base:Nat}{v:Value}(ps:List (WV w0))(hO:zfv w base v (ps.map WV.val))(hbase:w0.heap.size≤base)(hb:Go.RowKit.Below w0.heap.size w0 w)(hlen:ps.length≤1099511627776) :
  Calls Tryz.prog 42 #[v,.func (.func 43) #[] #[]] w fun e w'=>e= .returned (.tuple #[]) ∧
   ∃ ps':List (WV w0),ps'.Perm ps∧(ps'.map WV.way).Pairwise (fun a b=>ltW b a=false)∧Seg w' v 1 ps'.length (ps'.map WV.val)∧Go.RowKit.Below w0.heap.size w0 w':=by
 by_cases hne:ps=[]
 ·
  subst hne
  have hs:=zbo hO (by simp)
  obtain⟨-,-,a,c,rfl,-⟩:=hs
  refine (znB a c _ w).mono ?_
  rintro e w' ⟨rfl,rfl⟩
  exact⟨rfl,[],List.Perm.refl _,by simp,zbo hO (by simp),hb⟩
 ·
  exact znA ps hne hO hbase hb hlen
end
section
open Go.RowKit
def zap (n0 base:Nat)(w:World)(P:World→Prop):Prop:=∀ w',(∀ b,b<w.heap.size→(b<n0∨base≤b)→w'.heap[b]?=w.heap[b]?)→P w'
theorem zap.here {n0 base:Nat}{w:World}{P:World→Prop}(h:zap n0 base w P):P w:=h w fun _ _ _=>rfl
theorem zap.later {n0 base:Nat}{w w2:World}{P:World→Prop}(h:zap n0 base w P)(hb:Below w.heap.size w w2):zap n0 base w2 P:=fun w' hw'=>h w' fun b hlt hc=>(hw' b (Nat.lt_of_lt_of_le hlt hb.size) hc).trans (hb.block b hlt)
theorem zap.mono {n0 base base':Nat}{w:World}{P:World→Prop}(h:zap n0 base w P)(hb:base'≤base):zap n0 base' w P:=fun w' hw'=>h w' fun b hlt hc=>hw' b hlt (hc.imp id fun h=>Nat.le_trans hb h)
def zam {α:Type}(P:World→List Value→α→Prop)(T:TypeId)(k n0 base:Nat)(w:World)(v:Value)(l:List α):Prop:=
 ∃ rows:List (List Value),rows.length=l.length∧(∀ r∈rows,r.length=k)∧w.ownsRow base T k v l.length rows.flatten ∧
  ∀ w',(∀ b,b<w.heap.size→v.ownBlock≠some b→(b<n0∨base≤b)→w'.heap[b]?=w.heap[b]?)→∀ (i:Nat) (r:List Value) (x:α),rows[i]?=some r→l[i]?=some x→P w' r x
theorem zam.nil {α:Type}(P:World→List Value→α→Prop)(T:TypeId)(k n0 base:Nat)(w:World):zam P T k n0 base w (.slice none 0 0) []:=
 ⟨[],rfl,by simp,World.ownsRow_nil _ _ _ _,fun _ _ i r x h=>by simp at h⟩
theorem zam.later {α:Type}{P:World→List Value→α→Prop}{T:TypeId}{k n0 base:Nat}{w w2:World}{v:Value}{l:List α}(h:zam P T k n0 base w v l)
  (hw:∀ b,b<w.heap.size→(b<n0∨base≤b)→w2.heap[b]?=w.heap[b]?) (hs:w.heap.size≤w2.heap.size):zam P T k n0 base w2 v l:=by
 obtain⟨rows,h1,h2,h3,h4⟩:=h
 refine⟨rows,h1,h2,zbk h3 fun b cur hb he=>hw b (Array.getElem?_eq_some_iff.1 he).1 (.inr hb),fun w' hw'=>h4 w' fun b hlt hne hc=>(hw' b (by omega) hne hc).trans (hw b hlt hc)⟩
theorem zam.below {α:Type}{P:World→List Value→α→Prop}{T:TypeId}{k n0 base:Nat}{w w2:World}{v:Value}{l:List α}(h:zam P T k n0 base w v l)(hb:Below w.heap.size w w2):zam P T k n0 base w2 v l:=
 h.later (fun b hlt _=>hb.block b hlt) hb.size
theorem zam.form {α:Type}{P:World→List Value→α→Prop}{T:TypeId}{k n0 base:Nat}{w:World}{v:Value}{l:List α}(h:zam P T k n0 base w v l):∃ a c,v= .slice a l.length c:=by
 obtain⟨rows,-,-,h3,-⟩:=h
 rcases h3.2 with ⟨rfl,h0⟩|⟨g,cap,cur,rfl,_⟩
 ·
  exact⟨none,0,by rw[h0]⟩
 ·
  exact⟨_,_,rfl⟩
theorem zam.at {α:Type}{P:World→List Value→α→Prop}{T:TypeId}{k n0 base:Nat}{w:World}{v:Value}{l:List α}(h:zam P T k n0 base w v l)(hl:l.length≤140737488355328){w':World}
  (hw:∀ b,b<w.heap.size→(b<n0∨base≤b)→w'.heap[b]?=w.heap[b]?):zca P k w' v l:=by
 obtain⟨rows,h1,h2,h3,h4⟩:=h
 exact⟨rows,h1,h2,zbo (zbk h3 fun b cur hb he=>hw b (Array.getElem?_eq_some_iff.1 he).1 (.inr hb)) hl,fun i r x hr hx=>h4 w' (fun b hlt _ hc=>hw b hlt hc) i r x hr hx⟩
theorem zam.append' {α:Type}{P:World→List Value→α→Prop}{T:TypeId}{k n0 base:Nat}{w:World}{v:Value}{l:List α}(h:zam P T k n0 base w v l)(hk:0<k)
  {G:Program} (t:TypeId) (z:Value) (bytes:Nat) (ht:G.underlying t=some (.slice T)) (hinfo:(G.info? T).map (fun i=>(i.zero,i.size,i.bytes))=some (some z,k,bytes)) (hzs:z.cells.size=k)
  (cells:Array Value) (hr:cells.size=k) (h1:∀ u∈cells.toList,u.oneCell'=true) (x:α)
  (hP:∀ w',(∀ b,b<w.heap.size→v.ownBlock≠some b→(b<n0∨base≤b)→w'.heap[b]?=w.heap[b]?)→P w' cells.toList x) (hlen:l.length≤1099511627776) (hby:bytes≤120) (hbase:base≤w.heap.size) :
  ∃ v' w',(Builtin.append_ #[t,t] t #[v,.slice (some ⟨w.heap.size,0,none⟩) 1 1]).run G (w.alloc (.cells cells T))= .ok v' w'∧zam P T k n0 base w' v' (l++[x]) ∧
   (w.alloc (.cells cells T)).grownBy w' v.ownBlock∧(v'.ownBlock=v.ownBlock∨v'.ownBlock=some (w.alloc (.cells cells T)).heap.size):=by
 obtain⟨rows,g1,g2,g3,g4⟩:=h
 have hseg:Seg (w.alloc (.cells cells T)) (.slice (some ⟨w.heap.size,0,none⟩) 1 1) k 1 cells.toList:=by
  refine⟨by simp[hr],by omega,some ⟨w.heap.size,0,none⟩,1,rfl,Nat.le_refl _,by omega,by simp,fun j u hu=>⟨_,_,rfl,?_⟩⟩
  rw[Nat.zero_add,cell_of_row _ _ _ cells T (0,0) (heap_alloc_new w _)]
  simpa using hu
 have hb1:(l.length+1)*bytes≤140737488355328:=Nat.le_trans (Nat.mul_le_mul_left _ hby) (by omega)
 obtain⟨v',w',hrun,hO,hg,hat⟩:=zbb (P:=G) (w.alloc (.cells cells T)) base t t T z k bytes ht hinfo hzs hk v _ l.length 1 rows.flatten cells.toList
  (World.ownsRow.alloc g3 _) hseg h1 (by omega) hb1 (by simp;omega)
 refine⟨v',w',hrun,⟨rows++[cells.toList],by simp[g1],?_,by simpa using hO,?_⟩,hg,hat⟩
 ·
  intro r hr'
  rcases List.mem_append.1 hr' with h|h
  ·
   exact g2 r h
  ·
   simp at h;subst h;simpa using hr
 ·
  intro w2 hw2
  have hsz:w.heap.size+1≤w'.heap.size:=by have:=hg.size;simpa using this
  have hold:∀ b,b<w.heap.size→v.ownBlock≠some b→(b<n0∨base≤b)→w2.heap[b]?=w.heap[b]?:=by
   intro b hlt hne hc
   have hne':v'.ownBlock≠some b:=by
    rcases hat with e|e
    ·
     rw[e];exact hne
    ·
     rw[e];intro e2;simp at e2;omega
   exact ((hw2 b (by omega) hne' hc).trans (hg.block b (by simp;omega) (fun e=>hne e.symm))).trans (Below.heap_alloc w _ b hlt)
  intro i r y hri hyi
  by_cases hil:i<l.length
  ·
   rw[List.getElem?_append_left (by omega)] at hri
   rw[List.getElem?_append_left hil] at hyi
   exact g4 w2 hold i r y hri hyi
  ·
   have hi:i=l.length:=by
    have:=(List.getElem?_eq_some_iff.1 hyi).1
    simp at this;omega
   subst hi
   rw[←g1,List.getElem?_concat_length] at hri
   rw[List.getElem?_concat_length] at hyi
   cases hri
   cases hyi
   exact hP w2 hold
theorem zam.append {α:Type}{P:World→List Value→α→Prop}{T:TypeId}{k n0 base:Nat}{w:World}{v:Value}{l:List α}(h:zam P T k n0 base w v l)(hk:0<k)(hn0:n0≤base)
  {G:Program} (t:TypeId) (z:Value) (bytes:Nat) (ht:G.underlying t=some (.slice T)) (hinfo:(G.info? T).map (fun i=>(i.zero,i.size,i.bytes))=some (some z,k,bytes)) (hzs:z.cells.size=k)
  (cells:Array Value) (hr:cells.size=k) (h1:∀ u∈cells.toList,u.oneCell'=true) (x:α) (nb:Nat) (hnb:∀ b,v.ownBlock=some b→b<nb) (hbn:base≤nb)
  (hP:zap n0 nb w fun w'=>P w' cells.toList x) (hlen:l.length≤1099511627776) (hby:bytes≤120) (hbase:base≤w.heap.size) :
  ∃ v' w',(Builtin.append_ #[t,t] t #[v,.slice (some ⟨w.heap.size,0,none⟩) 1 1]).run G (w.alloc (.cells cells T))= .ok v' w'∧zam P T k n0 base w' v' (l++[x]) ∧
   (w.alloc (.cells cells T)).grownBy w' v.ownBlock∧(v'.ownBlock=v.ownBlock∨v'.ownBlock=some (w.alloc (.cells cells T)).heap.size):=by
 have g3:=h
 obtain⟨rows,-,-,g3,-⟩:=g3
 refine h.append' hk t z bytes ht hinfo hzs cells hr h1 x (fun w2 hold=>hP w2 fun b hlt hc=>hold b hlt ?_ (hc.imp id fun h=>Nat.le_trans hbn h)) hlen hby hbase
 intro e
 have:=hnb b e
 rcases hc with hc|hc
 ·
  have hb2:base≤b:=by
   rcases g3.2 with ⟨rfl,_⟩|⟨g,cap,cur,rfl,hb,_⟩
   ·
    simp[Value.ownBlock] at e
   ·
    simp[Value.ownBlock] at e;omega
  omega
 ·
  omega
theorem zam.own {α:Type}{P:World→List Value→α→Prop}{T:TypeId}{k n0 base:Nat}{w:World}{v:Value}{l:List α}(h:zam P T k n0 base w v l)(b:Nat)(e:v.ownBlock=some b):base≤b∧b<w.heap.size:=by
 obtain⟨rows,-,-,h3,-⟩:=h
 rcases h3.2 with ⟨rfl,h0⟩|⟨g,cap,cur,rfl,hb,hg,_⟩
 ·
  simp[Value.ownBlock] at e
 ·
  simp[Value.ownBlock] at e
  subst e
  exact⟨hb,(Array.getElem?_eq_some_iff.1 hg).1⟩
theorem zam.step {α:Type}{P:World→List Value→α→Prop}{T:TypeId}{k n0 base i:Nat}{wr w1:World}{oa:Option Addr}{oc:Nat}{l:List α}(h:zam P T k n0 base wr (.slice oa i oc) l)(hb:Below wr.heap.size wr w1)(hk:0<k)(hn0:n0≤base)(hbs:base≤wr.heap.size)(hil:l.length=i)
  {G:Program} (t:TypeId) (z:Value) (bytes:Nat) (ht:G.underlying t=some (.slice T)) (hinfo:(G.info? T).map (fun i=>(i.zero,i.size,i.bytes))=some (some z,k,bytes)) (hzs:z.cells.size=k)
  (cells:Array Value) (hr:cells.size=k) (h1:∀ u∈cells.toList,u.oneCell'=true) (x:α) (hP:zap n0 wr.heap.size w1 fun w'=>P w' cells.toList x) (hlen:i≤1099511627776) (hby:bytes≤120) :
  ∃ a' c' w5,(Builtin.append_ #[t,t] t #[.slice oa i oc,.slice (some ⟨w1.heap.size,0,none⟩) 1 1]).run G (w1.alloc (.cells cells T))= .ok (.slice a' (i+1) c') w5∧zam P T k n0 base w5 (.slice a' (i+1) c') (l++[x]) ∧
   Below base wr (w1.alloc (.cells cells T))∧Below base wr w5:=by
 have hs:=hb.size
 have hB1:Below base wr (w1.alloc (.cells cells T)):=(hb.mono hbs).alloc (by omega) _
 obtain⟨v',w',hrun,hO,hg,-⟩:=(h.below hb).append hk hn0 t z bytes ht hinfo hzs cells hr h1 x wr.heap.size (fun b e=>(h.own b e).2) hbs hP (by omega) hby (by omega)
 obtain⟨a',c',rfl⟩:=hO.form
 rw[List.length_append,List.length_singleton,hil] at *
 exact⟨a',c',w',hrun,hO,hB1,hB1.grown hg (by have:=hB1.size;omega) fun q e=>(h.own q e).1⟩
end
end Go.Proofs.YtdpnmdkbdibkpaaGreatDoor
