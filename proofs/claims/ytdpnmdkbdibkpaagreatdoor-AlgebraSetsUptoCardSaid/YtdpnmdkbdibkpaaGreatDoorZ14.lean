/- Parts of a proof: texts of the author, merged. No condition of their own. -/
import Derived.Test.YtdpnmdkbdibkpaaGreatDoorZ01
import Derived.Test.YtdpnmdkbdibkpaaGreatDoorZ02
import Derived.Test.YtdpnmdkbdibkpaaGreatDoorZ07
import Derived.Test.YtdpnmdkbdibkpaaGreatDoorZ08
import Derived.Test.YtdpnmdkbdibkpaaGreatDoorZ09
import Derived.Test.YtdpnmdkbdibkpaaGreatDoorZ10
import Derived.Test.YtdpnmdkbdibkpaaGreatDoorZ11
import Derived.Test.YtdpnmdkbdibkpaaGreatDoorZ12
import Derived.Test.YtdpnmdkbdibkpaaGreatDoorZ13
import Derived.Maps.RangeWalk
import Derived.Deep.AppendLies
import Derived.Deep.RegionHeld3
import Derived.Deep.DeepCutAuto
namespace Go.Proofs.YtdpnmdkbdibkpaaGreatDoor
set_option maxRecDepth 100000
set_option maxHeartbeats 16000000
section
open Go.RowKit
def zbu {α:Type}(l:List (Val α))(n:Int):Option (Val α):=l.find? fun v=>decide (v.num=n)
def zbc {α:Type}(l:List (Val α)):Prop:=l.Pairwise fun a b=>a.num<b.num
def zdk {α:Type}(v:Val α):List (Val α)→List (Val α)
 | []=>[v]
 | x::r=>if x.num<v.num then x::zdk v r else if x.num=v.num then v::r else v::x::r
def zm1 {α:Type}(n:Int)(l:List (Val α)):List (Val α):=l.filter fun x=>decide (x.num≠n)
def zb5 {α:Type}(v:Val α):Bool→List (Val α)→List (Val α)
 | done,[]=>if done=true then [] else [v]
 | done,x::r=>(if done=false∧v.num≤x.num then [v] else [])++((if x.num=v.num then [] else [x])++zb5 v (done||decide (v.num≤x.num)) r)
def zcD {α:Type}(v:Val α):Nat:=v.words.length+v.texts.length+v.subs.length
def zoZ {α:Type}(v:Val α)(l:List (Val α)):List (Val α):=zb5 v (decide (zcD v=0)) l
theorem zgo {α:Type}(n:Int):zbu ([]:List (Val α)) n=none:=rfl
theorem zaJ {α:Type}(x:Val α)(r:List (Val α))(n:Int):zbu (x::r) n=if x.num=n then some x else zbu r n:=by
 unfold zbu
 rw[List.find?_cons]
 by_cases h:x.num=n
 ·
  simp[h]
 ·
  simp[h]
theorem zbO {α:Type}{l:List (Val α)}{n:Int}{v:Val α}(h:zbu l n=some v):v.num=n∧v∈l:=by
 have h1:=List.find?_some h
 exact⟨by simpa using h1,List.mem_of_find?_eq_some h⟩
theorem zbc.nodup {α:Type}{l:List (Val α)}(h:zbc l):(l.map (·.num)).Nodup:=by
 unfold zbc at h
 induction h with
 | nil=>simp
 | cons h1 _ ih =>
  rw[List.map_cons,List.nodup_cons]
  refine⟨fun hm=>?_,ih⟩
  obtain⟨y,hy,e⟩:=List.mem_map.1 hm
  have:=h1 y hy
  omega
theorem zbc.tail {α:Type}{x:Val α}{r:List (Val α)}(h:zbc (x::r)):zbc r∧∀ y∈r,x.num<y.num:=by
 unfold zbc at *
 rw[List.pairwise_cons] at h
 exact⟨h.2,h.1⟩
theorem zo0 {α:Type}{l:List (Val α)}(h:zbc l){v:Val α}(hv:v∈l):zbu l v.num=some v:=by
 induction l with
 | nil=>simp at hv
 | cons x r ih =>
  obtain⟨h1,h2⟩:=h.tail
  rw[zaJ]
  rcases List.mem_cons.1 hv with rfl|hv
  ·
   rw[if_pos rfl]
  ·
   rw[if_neg (by have:=h2 v hv;omega)]
   exact ih h1 hv
theorem zlx {α:Type}{l:List (Val α)}{n:Int}(h:∀ y∈l,n<y.num):zbu l n=none:=by
 unfold zbu
 rw[List.find?_eq_none]
 intro y hy
 have:=h y hy
 simp;omega
theorem zly {α:Type}{v y:Val α}:∀ {l:List (Val α)},y∈zdk v l→y=v∨y∈l
 | [],h=>by simp[zdk] at h;exact .inl h
 | x::r,h=>by
  unfold zdk at h
  split at h
  ·
   rcases List.mem_cons.1 h with e|h
   ·
    exact .inr (by simp[e])
   ·
    rcases zly h with e|h
    ·
     exact .inl e
    ·
     exact .inr (by simp[h])
  ·
   split at h
   ·
    rcases List.mem_cons.1 h with e|h
    ·
     exact .inl e
    ·
     exact .inr (by simp[h])
   ·
    rcases List.mem_cons.1 h with e|h
    ·
     exact .inl e
    ·
     exact .inr h
theorem zcV {α:Type}{v:Val α}:∀ {l:List (Val α)},zbc l→zbc (zdk v l)
 | [],_=>by simp[zdk,zbc]
 | x::r,h=>by
  obtain⟨h1,h2⟩:=h.tail
  unfold zdk
  split
  ·
   rename_i hlt
   refine List.pairwise_cons.2 ⟨fun y hy=>?_,zcV h1⟩
   rcases zly hy with e|hy
   ·
    rw[e];exact hlt
   ·
    exact h2 y hy
  ·
   split
   ·
    rename_i e
    exact List.pairwise_cons.2 ⟨fun y hy=>by have:=h2 y hy;omega,h1⟩
   ·
    refine List.pairwise_cons.2 ⟨fun y hy=>?_,h⟩
    rcases List.mem_cons.1 hy with e|hy
    ·
     rw[e];omega
    ·
     have:=h2 y hy;omega
theorem zeB {α:Type}{v:Val α}:∀ {l:List (Val α)},zbc l→∀ n,zbu (zdk v l) n=if v.num=n then some v else zbu l n
 | [],_,n=>by simp[zdk,zaJ]
 | x::r,h,n=>by
  obtain⟨h1,h2⟩:=h.tail
  unfold zdk
  split
  ·
   rename_i hlt
   rw[zaJ,zeB h1,zaJ]
   by_cases e:x.num=n
   ·
    rw[if_pos e,if_neg (by omega),if_pos e]
   ·
    rw[if_neg e,if_neg e]
  ·
   split
   ·
    rename_i e
    rw[zaJ,zaJ]
    by_cases e2:v.num=n
    ·
     rw[if_pos e2,if_pos e2]
    ·
     rw[if_neg e2,if_neg e2,if_neg (by omega)]
   ·
    rw[zaJ]
theorem zjQ {α:Type}{n:Int}{l:List (Val α)}(h:zbc l):zbc (zm1 n l):=List.Pairwise.filter _ h
theorem zeU {α:Type}{v:Val α}:∀ {l:List (Val α)},zb5 v true l=zm1 v.num l
 | []=>rfl
 | x::r=>by
  unfold zb5 zm1
  rw[if_neg (by simp),List.filter_cons,Bool.true_or,zeU]
  by_cases e:x.num=v.num
  ·
   rw[if_pos e,if_neg (by simp[e])];rfl
  ·
   rw[if_neg e,if_pos (by simp[e])];rfl
theorem zfy {α:Type}{v:Val α}:∀ {l:List (Val α)},zbc l→zb5 v false l=zdk v l
 | [],_=>rfl
 | x::r,h=>by
  obtain⟨h1,h2⟩:=h.tail
  unfold zb5 zdk
  by_cases hlt:x.num<v.num
  ·
   rw[if_neg (by omega),if_neg (by omega),if_pos hlt,show (false||decide (v.num≤x.num))=false by simp;omega,zfy h1];rfl
  ·
   rw[if_pos ⟨rfl,by omega⟩,if_neg hlt,show (false||decide (v.num≤x.num))=true by simp;omega,zeU]
   have hd:zm1 v.num r=r:=by
    unfold zm1
    rw[List.filter_eq_self]
    intro y hy
    have:=h2 y hy
    simp;omega
   rw[hd]
   by_cases e:x.num=v.num
   ·
    rw[if_pos e,if_pos e];rfl
   ·
    rw[if_neg e,if_neg e];rfl
def zej {α:Type}(J:Int→α→α→α)(f:Fld)(w v:Val α):Val α:=
 if f.rep=true then ⟨v.num,w.words++v.words,w.texts++v.texts,w.subs++v.subs⟩
 else if f.kind=17 then ⟨v.num,[],[],(w.subs.zip v.subs).take 1 |>.map fun p=>J f.of p.1 p.2⟩ else v
theorem zg1 {α:Type}(J:Int→α→α→α)(f:Fld)(w v:Val α):(zej J f w v).num=v.num:=by
 unfold zej
 split
 ·
  rfl
 ·
  split <;> rfl
def zd6 {α:Type}(g:Val α→Val α→Val α)(a:List (Val α))(v:Val α):Val α:=match zbu a v.num with|some w=>g w v|none=>v
theorem zg2 {α:Type}{g:Val α→Val α→Val α}(hg:∀ w v,(g w v).num=v.num)(a:List (Val α))(v:Val α):(zd6 g a v).num=v.num:=by
 unfold zd6
 split
 ·
  exact hg _ _
 ·
  rfl
def ziI {α:Type}(g:Val α→Val α→Val α)(a b:List (Val α)):List (Val α):=b.foldl (fun out v=>zdk (zd6 g a v) out) a
def zdL (s:List Mes):(d:Nat)→Int→M d→M d→M d
 | 0,_,x,_=>x
 | d+1,root,x,y=>(⟨ziI (fun w v=>zej (zdL s d) ((s.getD root.toNat .zero).fields.getD (zak (s.getD root.toNat .zero).fields v.num).toNat .zero) w v) (M.vals x) (M.vals y),M.unk x++M.unk y⟩:zec (M d))
theorem zjR {α:Type}(k:Val α→Val α):∀ (b a:List (Val α)),zbc a→zbc (b.foldl (fun out v=>zdk (k v) out) a)
 | [],_,h=>h
 | _x::r,_a,h=>zjR k r _ (zcV h)
theorem zlz {α:Type}{k:Val α→Val α}(hk:∀ v,(k v).num=v.num):∀ (b a:List (Val α)),zbc a→zbc b→∀ n,zbu (b.foldl (fun out v=>zdk (k v) out) a) n=match zbu b n with|some v=>some (k v)|none=>zbu a n
 | [],a,_,_,n=>rfl
 | x::r,a,ha,hb,n=>by
  obtain⟨b1,b2⟩:=hb.tail
  rw[List.foldl_cons,zlz hk r _ (zcV ha) b1,zaJ,zeB ha,hk]
  by_cases e:x.num=n
  ·
   subst e
   rw[zlx b2,if_pos rfl,if_pos rfl]
  ·
   rw[if_neg e,if_neg e]
theorem zmh {α:Type}(g:Val α→Val α→Val α){a b:List (Val α)}(ha:zbc a):zbc (ziI g a b):=zjR _ _ _ ha
theorem znN {α:Type}{g:Val α→Val α→Val α}(hg:∀ w v,(g w v).num=v.num){a b:List (Val α)}(ha:zbc a)(hb:zbc b)(n:Int) :
  zbu (ziI g a b) n=match zbu b n with|some v=>some (zd6 g a v)|none=>zbu a n:=zlz (zg2 hg a) b a ha hb n
end
section
open Go.RowKit Go.Maps Go.Sort Go.Shelf
structure VS where
 n:Int
 a1:Option Addr
 n1:Nat
 c1:Nat
 a2:Option Addr
 n2:Nat
 c2:Nat
 a3:Option Addr
 n3:Nat
 c3:Nat
def VS.val (c:VS):Value:=.agg #[.int .i64 c.n,.slice c.a1 c.n1 c.c1,.slice c.a2 c.n2 c.c2,.slice c.a3 c.n3 c.c3]
open Classical in
noncomputable def RV (v:Value):Option (DataW Value × List MemPlace):=if ∃ c:VS,v=c.val then some (.held v,[]) else none
theorem RV_val (c:VS):RV c.val=some (.held c.val,[]):=if_pos ⟨c,rfl⟩
theorem zpy {v:Value}{y:DataW Value × List MemPlace}(h:RV v=some y):(∃ c:VS,v=c.val)∧y=(.held v,[]):=by
 unfold RV at h
 split at h
 ·
  rename_i hc
  injection h with h
  exact⟨hc,h.symm⟩
 ·
  cases h
theorem zjS {es:List (Int × Value)}(hd:(es.map Prod.fst).Nodup){x:Int}{v:Value}:zal x es=some v↔(x,v)∈es:=by
 induction es with
 | nil=>simp[zal]
 | cons e r ih =>
  obtain⟨k,u⟩:=e
  rw[List.map_cons,List.nodup_cons] at hd
  rw[zal,List.mem_cons]
  by_cases h:x=k
  ·
   subst h
   rw[if_pos rfl]
   constructor
   ·
    intro e;injection e with e;exact .inl (by rw[e])
   ·
    rintro (e|e)
    ·
     injection e with _ e;rw[e]
    ·
     exact absurd (List.mem_map.2 ⟨_,e,rfl⟩) hd.1
  ·
   rw[if_neg h,ih hd.2]
   constructor
   ·
    exact .inr
   ·
    rintro (e|e)
    ·
     injection e with e _;exact absurd e h
    ·
     exact e
theorem rd_vs {p:Int}(c:VS)(i:Nat)(hp:zcb p):Go.WideElems.rd Tryz.prog 3 RV ⟨zbK p,c.val,i⟩=some (.int .i64 p,.held c.val):=
 Go.WideElems.rd_mk (keyOf_int_mk Tryz.underlying3 (znK hp)) (RV_val c)
def VOk (es:List (Int × Value)):Prop:=∀ p∈es,zcb p.1∧∃ c:VS,p.2=c.val
theorem rg_vs {es:List (Int × Value)}:∀ i:Nat,VOk es→(zcd zbK es i).map (Go.WideElems.rg Tryz.prog 3 RV)=es.map fun p=>(Lit.int .i64 p.1,DataW.held p.2):=by
 induction es with
 | nil=>intro i _;rfl
 | cons e r ih =>
  obtain⟨p,v⟩:=e
  intro i h
  obtain⟨hp,c,hc⟩:=h (p,v) (by simp)
  simp only at hp hc
  subst hc
  rw[zcd,List.map_cons,ih (i+1) fun q hq=>h q (by simp[hq]),List.map_cons,Go.WideElems.rg_of (rd_vs c i hp)]
theorem zo1 {w:World}{r:Nat}{es:List (Int × Value)}(h:zas w r zbK es)(hn:es.length≤1073741824)(hd:(es.map Prod.fst).Nodup)(hv:VOk es) :
  w.ownsMap Tryz.prog 3 RV r es.length (.map ((es.map fun p=>(Lit.int .i64 p.1,DataW.held p.2)).foldr DataW.insert [])):=by
 refine⟨(zcd zbK es 0).toArray,es.length,h,⟨by simp[zgk];unfold maxLen;omega,⟨fun x hx=>?_,by simpa using zjO 0,?_⟩,fun x hx=>?_⟩,by simp[zgk],?_⟩
 ·
  obtain⟨-,-,-,-,-,h4⟩:=ziH (by simpa using hx)
  omega
 ·
  show ((zcd zbK es 0).toArray.toList.map (·.key)).Nodup
  rw[List.toList_toArray,znJ]
  exact List.Pairwise.map _ (fun a b hab e=>hab (by unfold zbK at e;injection e)) hd
 ·
  have key:∀ (l:List (Int × Value)) (i:Nat),VOk l→∀ x∈zcd zbK l i,∃ y,Go.WideElems.rd Tryz.prog 3 RV x=some y:=by
   intro l
   induction l with
   | nil=>intro i _ x hx;cases hx
   | cons e r ih =>
    obtain⟨p,v⟩:=e
    intro i hl x hx
    rw[zcd] at hx
    rcases List.mem_cons.1 hx with rfl|hx
    ·
     obtain⟨hp,c,hc⟩:=hl (p,v) (by simp)
     simp only at hp hc
     subst hc
     exact⟨_,rd_vs c i hp⟩
    ·
     exact ih (i+1) (fun q hq=>hl q (by simp[hq])) x hx
  exact key es 0 hv x (by simpa using hx)
 ·
  rw[List.toList_toArray,rg_vs 0 hv]
theorem zgp {es:List (Int × Value)}{kl:Lit}{d:DataW Value}:(kl,d)∈(es.map fun p=>(Lit.int .i64 p.1,DataW.held p.2)).foldr DataW.insert []↔∃ x v,(x,v)∈es∧kl= .int .i64 x∧d= .held v:=by
 rw[Go.mem_sorted,List.mem_map]
 constructor
 ·
  rintro⟨⟨x,v⟩,h,e⟩
  injection e with e1 e2
  exact⟨x,v,h,e1.symm,e2.symm⟩
 ·
  rintro⟨x,v,h,rfl,rfl⟩
  exact⟨(x,v),h,rfl⟩
structure Rng (w:World)(b r:Nat)(es:List (Int × Value))(todo:Int→Bool)(cnt:Nat):Prop where
 ran:∃ (D:DataW Value) (left:Lit→Bool) (n:Nat),w.ranges Tryz.prog 3 RV b r n D left cnt∧(∀ x v,D.atKey (.int .i64 x) .nil= .held v→zal x es=some v)∧∀ x,todo x=left (.int .i64 x)
theorem Rng.kept {w w':World}{b r:Nat}{es:List (Int × Value)}{todo:Int→Bool}{cnt:Nat}(h:Rng w b r es todo cnt){c:Nat}(hb:But c w w')(h1:b≠c)(h2:r≠c):Rng w' b r es todo cnt:=by
 obtain⟨D,left,n,h0,h3,h4⟩:=h.ran
 exact⟨D,left,n,h0.kept (row:=some c) ⟨hb.os,hb.tape,hb.output,hb.size,fun k hk hne=>hb.block k hk (fun e=>hne (by rw[e]))⟩ (by simpa using h1) (by simpa using h2),h3,h4⟩
theorem Rng.below {w w':World}{b r:Nat}{es:List (Int × Value)}{todo:Int→Bool}{cnt:Nat}(h:Rng w b r es todo cnt)(hb:Below w.heap.size w w'):Rng w' b r es todo cnt:=by
 obtain⟨D,left,n,h0,h3,h4⟩:=h.ran
 exact⟨D,left,n,h0.kept (row:=none) ⟨hb.os,hb.tape,hb.output,hb.size,fun k hk _=>hb.block k hk⟩ (by simp) (by simp),h3,h4⟩
theorem Rng.left {w:World}{b r:Nat}{es:List (Int × Value)}{todo:Int→Bool}{cnt:Nat}(h:Rng w b r es todo cnt):w.rangeLeft b r=cnt:=by
 obtain⟨D,left,n,h0,h3,h4⟩:=h.ran
 exact h0.left_eq
section
variable (w:World) {ops:Array Oper} {rest:List Oper} {o:Oper} {a:Act} {Q:Exit→Act→World→Prop}
theorem zf3 (hg:o.guard=none)(m:Operand)(hop:o.op=Op.range 113 m){b:Nat}{es:List (Int × Value)}(hm:a.eval m= .map (some b))(h:zas w b zbK es)(hn:es.length≤1073741824)(hd:(es.map Prod.fst).Nodup)(hv:VOk es)
  (hK:∀ w',Rng w' b w.heap.size es (fun x=>decide (x∈es.map Prod.fst)) (w'.rangeLeft b w.heap.size)→Below w.heap.size w w'→w'.heap.size=w.heap.size+1→wpList Tryz.prog ops Q rest (a.put o.dst (.pointer (some ⟨w.heap.size,0,none⟩))) w') :
  wpList Tryz.prog ops Q (o::rest) a w:=by
 refine wpList_range_own w hg m 113 hop 3 32 (int_keyed Tryz.underlying3) Tryz.underlying113 RV b es.length _ hm (zo1 h hn hd hv) fun w' h1 h2 h3=>?_
 refine hK w' ?_ ⟨h2.os,h2.tape,h2.output,h2.size,fun k hk=>h2.block k hk (by simp)⟩ h3
 rw[h1.left_eq]
 refine⟨_,_,_,h1,fun x v hx=>?_,fun x=>?_⟩
 ·
  rw[zjS hd]
  by_cases hm:∃ u,(x,u)∈es
  ·
   obtain⟨u,hu⟩:=hm
   obtain⟨es',e1,e2,e3⟩:=h1.owns.entries (int_keyed Tryz.underlying3)
   injection e1 with e1
   have hmem:=zgp.2 ⟨x,u,hu,rfl,rfl⟩
   rw[e1] at hmem hx
   rw[WideAt.atKey_mem _ (e3 _ hmem) e2 hmem] at hx
   injection hx with hx
   rw[←hx];exact hu
  ·
   rw[WideAt.atKey_none] at hx
   ·
    cases hx
   ·
    rintro⟨kl,d⟩ hp e
    obtain⟨x',v',hm',e1,-⟩:=zgp.1 hp
    simp only at e
    rw[e] at e1
    injection e1 with _ e1
    exact hm ⟨v',by rw[e1];exact hm'⟩
 ·
  show _=List.any _ _
  rw[Bool.eq_iff_iff,decide_eq_true_eq,List.any_eq_true,List.mem_map]
  constructor
  ·
   rintro⟨⟨x',v⟩,hm',rfl⟩
   exact⟨_,zgp.2 ⟨x',v,hm',rfl,rfl⟩,by simp[Lit.sameKey]⟩
  ·
   rintro⟨⟨kl,d⟩,hp,hs⟩
   obtain⟨x',v',hm',e1,-⟩:=zgp.1 hp
   have:=WideAt.sameKey_eq hs
   simp only at this
   rw[this] at e1
   injection e1 with _ e1
   exact⟨(x',v'),hm',e1.symm⟩
theorem zg3 (hg:o.guard=none)(it:Operand)(hop:o.op=Op.next it false){b r:Nat}{es:List (Int × Value)}{todo:Int→Bool}{cnt:Nat}(hit:a.eval it= .pointer (some ⟨r,0,none⟩))(h:Rng w b r es todo cnt)
  (hDone:(∀ x,todo x=false)→wpList Tryz.prog ops Q rest (a.put o.dst (.tuple #[.bool false])) w)
  (hMore:∀ (x:Int) (c:VS) (w':World) (cnt':Nat),zcb x→todo x=true→zal x es=some c.val→Rng w' b r es (fun z=>todo z&&decide (z≠x)) cnt'→cnt'<cnt→But r w w'→w'.heap.size=w.heap.size →
   (Instr.entry (.pointer (some ⟨r,0,none⟩))).run Tryz.prog w'= .ok (.tuple #[.int .i64 x,c.val]) w'→wpList Tryz.prog ops Q rest (a.put o.dst (.tuple #[.bool true,.int .i64 x,c.val])) w') :
  wpList Tryz.prog ops Q (o::rest) a w:=by
 obtain⟨D,left,n,h0,h3,h4⟩:=h.ran
 refine wpList_next_ranges w hg it hop 3 (int_keyed Tryz.underlying3) RV (Value.int .i64) VS.val (fun key kl hk=>by obtain⟨x,rfl,_⟩:=Maps.keyOf_int_inv Tryz.underlying3 hk;exact⟨x,rfl⟩) (fun v y hy=>(zpy hy).1) b r n D left cnt hit h0 (fun _ hl=>hDone fun x=>by rw[h4,hl]) ?_
 intro x c kl y w' cnt' hkey hlk hv hat hrg hlt hgr hsz hen
 obtain⟨x',ex,rfl,hw⟩:=Maps.keyOf_int_inv Tryz.underlying3 hkey
 injection ex with _ ex
 subst ex
 have hy:=(zpy hv).2
 have hok:zcb x:=by
  have h1:(decide (IntKind.i64.min≤x)&&decide (x≤IntKind.i64.max))=true:=hw
  rw[Bool.and_eq_true,decide_eq_true_eq,decide_eq_true_eq,(by decide:IntKind.i64.min= -9223372036854775808),(by decide:IntKind.i64.max=9223372036854775807)] at h1
  exact h1
 refine hMore x c w' cnt' hok (by rw[h4];exact hlk) (h3 x _ (by rw[hat .nil,hy])) ⟨D,_,n,hrg,h3,fun z=>?_⟩ hlt ⟨hgr.os,hgr.tape,hgr.output,hgr.size,fun k hk hne=>hgr.block k hk (by intro e;injection e with e;exact hne e)⟩ hsz hen
 show (todo z&&decide (z≠x))=(left (.int .i64 z) && !(Lit.int .i64 z).sameKey (.int .i64 x))
 rw[h4]
 congr 1
 by_cases e:z=x
 ·
  subst e;simp[Lit.sameKey]
 ·
  simp[Lit.sameKey,e]
end
structure zcv {d:Nat}(P:Value→Val (M d)→Prop)(es:List (Int × Value))(gs:List (Val (M d))):Prop where
 keys:es.map Prod.fst=gs.map (·.num)
 at':∀ (i:Nat) (e:Int × Value) (g:Val (M d)),es[i]?=some e→gs[i]?=some g→P e.2 g
abbrev zo2 (d n0 B:Nat) (w:World) (es:List (Int × Value)) (gs:List (Val (M d))):Prop:=zcv (fun v g=>zap n0 B w fun W=>zat (zac d) W v g) es gs
abbrev MapV (d:Nat) (w:World) (es:List (Int × Value)) (gs:List (Val (M d))):Prop:=zcv (fun v g=>zat (zac d) w v g) es gs
theorem zcv.nil {d:Nat}(P:Value→Val (M d)→Prop):zcv P [] []:=⟨rfl,fun i e g h=>by simp at h⟩
theorem zcv.imp {d:Nat}{P R:Value→Val (M d)→Prop}{es:List (Int × Value)}{gs:List (Val (M d))}(h:zcv P es gs)(hk:∀ v g,P v g→R v g):zcv R es gs:=
 ⟨h.keys,fun i e g h1 h2=>hk _ _ (h.at' i e g h1 h2)⟩
theorem zcv.len {d:Nat}{P:Value→Val (M d)→Prop}{es:List (Int × Value)}{gs:List (Val (M d))}(h:zcv P es gs):es.length=gs.length:=by
 have:=congrArg List.length h.keys
 rwa [List.length_map,List.length_map] at this
theorem zcv.get {d:Nat}{P:Value→Val (M d)→Prop}{es:List (Int × Value)}{gs:List (Val (M d))}(h:zcv P es gs){x:Int}{v:Value}(hx:zal x es=some v):∃ g,zbu gs x=some g∧g.num=x∧P v g:=by
 obtain⟨hk,ha⟩:=h
 induction es generalizing gs with
 | nil=>simp[zal] at hx
 | cons e r ih =>
  cases gs with
  | nil=>simp at hk
  | cons g t =>
   obtain⟨k,u⟩:=e
   rw[List.map_cons,List.map_cons] at hk
   injection hk with hk1 hk2
   simp only at hk1
   rw[zal] at hx
   rw[zaJ]
   by_cases e:x=k
   ·
    rw[if_pos e] at hx
    injection hx with hx
    subst hx
    rw[if_pos (by omega)]
    exact⟨g,rfl,by omega,ha 0 _ _ rfl rfl⟩
   ·
    rw[if_neg e] at hx
    rw[if_neg (by omega)]
    exact ih hx hk2 fun i e g h1 h2=>ha (i+1) e g h1 h2
theorem zcv.none {d:Nat}{P:Value→Val (M d)→Prop}{es:List (Int × Value)}{gs:List (Val (M d))}(h:zcv P es gs){x:Int}(hx:zal x es=none):zbu gs x=none:=by
 obtain⟨hk,ha⟩:=h
 induction es generalizing gs with
 | nil =>
  cases gs with
  | nil=>rfl
  | cons g t=>simp at hk
 | cons e r ih =>
  cases gs with
  | nil=>rfl
  | cons g t =>
   obtain⟨k,u⟩:=e
   rw[List.map_cons,List.map_cons] at hk
   injection hk with hk1 hk2
   simp only at hk1
   rw[zal] at hx
   rw[zaJ]
   by_cases e:x=k
   ·
    rw[if_pos e] at hx;cases hx
   ·
    rw[if_neg e] at hx
    rw[if_neg (by omega)]
    exact ih hx hk2 fun i e g h1 h2=>ha (i+1) e g h1 h2
theorem zh9 {d:Nat}{w:World}{v:Value}{g:Val (M d)}(h:zat (zac d) w v g):zcb g.num∧∃ c:VS,v=c.val∧c.n=g.num:=by
 obtain⟨wv,tv,sv,rfl,hn,hW,hT,hS⟩:=h
 obtain⟨-,a1,c1,rfl,-,-⟩:=hW.open
 obtain⟨-,a2,c2,rfl,-,-⟩:=hT.open
 obtain⟨-,a3,c3,rfl,-,-⟩:=hS.open
 exact⟨hn,⟨⟨g.num,a1,_,c1,a2,_,c2,a3,_,c3⟩,rfl,rfl⟩⟩
theorem zcv.ok {d:Nat}{P:Value→Val (M d)→Prop}{es:List (Int × Value)}{gs:List (Val (M d))}(h:zcv P es gs)(hP:∀ v g,P v g→zcb g.num∧∃ c:VS,v=c.val∧c.n=g.num):VOk es:=by
 intro p hp
 obtain⟨i,hi⟩:=List.mem_iff_getElem?.1 hp
 obtain⟨g,hg⟩:∃ g,gs[i]?=some g:=⟨_,List.getElem?_eq_getElem (by rw[←h.len];exact (List.getElem?_eq_some_iff.1 hi).1)⟩
 obtain⟨h1,c,h2,-⟩:=hP _ _ (h.at' i p g hi hg)
 refine⟨?_,c,h2⟩
 have:=congrArg (fun l=>l[i]?) h.keys
 simp only[List.getElem?_map,hi,hg,Option.map_some] at this
 injection this with this
 rw[this];exact h1
def zoH {α:Type}(v:Val α)(gs:List (Val α)):List (Val α):=if (zbu gs v.num).isSome=true then gs.map (fun g=>if g.num=v.num then v else g) else gs++[v]
theorem zo3 {α:Type}(a b:List (Val α))(n:Int):zbu (a++b) n=match zbu a n with|some v=>some v|none=>zbu b n:=by
 induction a with
 | nil=>rfl
 | cons x r ih =>
  rw[List.cons_append,zaJ,zaJ]
  by_cases h:x.num=n
  ·
   rw[if_pos h,if_pos h]
  ·
   rw[if_neg h,if_neg h];exact ih
theorem zgq {α:Type}(v:Val α)(gs:List (Val α))(n:Int):zbu (zoH v gs) n=if v.num=n then some v else zbu gs n:=by
 unfold zoH
 have hm:∀ l:List (Val α),zbu (l.map fun g=>if g.num=v.num then v else g) n=if v.num=n then (if (zbu l v.num).isSome=true then some v else none) else zbu l n:=by
  intro l
  induction l with
  | nil=>simp[zgo]
  | cons x r ih =>
   rw[List.map_cons,zaJ,ih,zaJ,zaJ]
   by_cases h1:x.num=v.num
   ·
    rw[if_pos h1]
    by_cases h2:v.num=n
    ·
     rw[if_pos h2,if_pos h2];simp[h1]
    ·
     rw[if_neg h2,if_neg h2,if_neg h2,if_neg (by omega)]
   ·
    rw[if_neg h1]
    by_cases h2:v.num=n
    ·
     subst h2
     rw[if_neg h1,if_pos rfl,if_pos rfl];simp[h1]
    ·
     rw[if_neg h2,if_neg h2]
 split
 ·
  rename_i hs
  rw[hm,if_pos hs]
 ·
  rename_i hs
  rw[zo3]
  by_cases h2:v.num=n
  ·
   subst h2
   rw[if_pos rfl]
   cases h3:zbu gs v.num with
   | some u=>rw[h3] at hs;exact absurd rfl hs
   | none=>simp[zaJ]
  ·
   rw[if_neg h2]
   cases zbu gs n with
   | some u=>rfl
   | none=>simp[zaJ,zgo,h2]
theorem zcv.put {d:Nat}{P:Value→Val (M d)→Prop}{es:List (Int × Value)}{gs:List (Val (M d))}(h:zcv P es gs)(hd:(es.map Prod.fst).Nodup){v:Val (M d)}{u:Value}(hv:P u v):zcv P (zf2 v.num u es) (zoH v gs):=by
 have hsome:(zal v.num es).isSome=(zbu gs v.num).isSome:=by
  cases h1:zal v.num es with
  | some x=>obtain⟨g,hg,-,-⟩:=h.get h1;rw[hg];rfl
  | none=>rw[h.none h1];rfl
 unfold zf2 zoH
 rw[hsome]
 split
 ·
  obtain⟨hk,ha⟩:=h
  clear hsome
  have key:∀ (es:List (Int × Value)) (gs:List (Val (M d))),es.map Prod.fst=gs.map (·.num)→(es.map Prod.fst).Nodup→(∀ (i:Nat) (e:Int × Value) (g:Val (M d)),es[i]?=some e→gs[i]?=some g→P e.2 g) →
    zcv P (zfb v.num u es) (gs.map fun g=>if g.num=v.num then v else g):=by
   intro es
   induction es with
   | nil=>intro gs hk _ _;cases gs with
    | nil=>exact zcv.nil P
    | cons g t=>simp at hk
   | cons e r ih =>
    intro gs hk hd ha
    cases gs with
    | nil=>simp at hk
    | cons g t =>
     obtain⟨k,x⟩:=e
     rw[List.map_cons,List.map_cons] at hk
     rw[List.map_cons,List.nodup_cons] at hd
     injection hk with hk1 hk2
     simp only at hk1
     have h0:=ha 0 (k,x) g rfl rfl
     have hr:∀ (i:Nat) (e:Int × Value) (g:Val (M d)),r[i]?=some e→t[i]?=some g→P e.2 g:=fun i e g h1 h2=>ha (i+1) e g h1 h2
     rw[zfb,List.map_cons]
     by_cases e:v.num=k
     ·
      rw[if_pos e,if_pos (by omega)]
      have hid':t.map (fun g=>if g.num=v.num then v else g)=t:=by
       rw[List.map_congr_left (g:=id) (fun g hg=>?_),List.map_id]
       rw[if_neg]
       ·
        rfl
       ·
        intro e2
        have:g.num∈r.map Prod.fst:=by rw[hk2];exact List.mem_map.2 ⟨g,hg,rfl⟩
        rw[e2,e] at this
        exact hd.1 this
      rw[hid']
      refine⟨by rw[List.map_cons,List.map_cons,hk2];simp[e],fun i e' g' h1 h2=>?_⟩
      cases i with
      | zero=>simp at h1 h2;subst h1 h2;exact hv
      | succ i=>exact hr i e' g' (by simpa using h1) (by simpa using h2)
     ·
      rw[if_neg e,if_neg (by omega)]
      have ih':=ih t hk2 hd.2 hr
      refine⟨by rw[List.map_cons,List.map_cons,ih'.keys];simp[hk1],fun i e' g' h1 h2=>?_⟩
      cases i with
      | zero=>simp at h1 h2;subst h1 h2;exact h0
      | succ i=>exact ih'.at' i e' g' (by simpa using h1) (by simpa using h2)
  exact key es gs hk hd ha
 ·
  refine⟨by rw[List.map_append,List.map_append,h.keys];rfl,fun i e g h1 h2=>?_⟩
  have hl:=h.len
  rcases Nat.lt_or_ge i es.length with hlt|hge
  ·
   rw[List.getElem?_append_left hlt] at h1
   rw[List.getElem?_append_left (by omega)] at h2
   exact h.at' i e g h1 h2
  ·
   rw[List.getElem?_append_right hge] at h1
   rw[List.getElem?_append_right (by omega)] at h2
   obtain⟨hi,e1⟩:=List.getElem?_eq_some_iff.1 h1
   simp at hi
   have hi0:i - es.length=0:=by omega
   rw[hi0] at h1
   rw[show i - gs.length=0 by omega] at h2
   simp at h1 h2
   subst h1 h2
   exact hv
theorem zaW {w:World}{r:Nat}{es es':List (Int × Value)}(h:zas w r zbK es)(p:Addr)(u:Value)(hp:w.cell? p=some u):(za9 w r zbK es').cell? p=some u:=by
 by_cases e:p.block=r
 ·
  exfalso
  unfold zas at h
  rw[←e] at h
  simp[World.cell?,h] at hp
 ·
  rw[←hp]
  exact World.cell?_of_block (zaT e)
theorem zfc {n0 B:Nat}{w:World}{P:World→Prop}(h:zap n0 B w P){r:Nat}{es':List (Int × Value)}(h1:n0≤r)(h2:r<B):zap n0 B (za9 w r zbK es') P:=fun W hW=>h W fun b hlt hc=>(hW b (by rw[za6];exact hlt) hc).trans (zaT (by omega))
theorem zfd {n0 B c:Nat}{w w':World}{P:World→Prop}(h:zap n0 B w P)(hb:But c w w')(h1:n0≤c)(h2:c<B):zap n0 B w' P:=fun W hW=>h W fun b hlt hc=>(hW b (Nat.lt_of_lt_of_le hlt hb.size) hc).trans (hb.block b hlt (by omega))
theorem zbz {n0 B:Nat}{w0 w:World}{P:World→Prop}(hn:n0=w0.heap.size)(hb:Below n0 w0 w)(h:∀ W,(∀ p u,w0.cell? p=some u→W.cell? p=some u)→P W):zap n0 B w P:=fun _ hW=>h _ (zdq hn hb hW)
theorem zap.wider {n n0 B:Nat}{w:World}{P:World→Prop}(h:zap n B w P)(hn:n≤n0):zap n0 B w P:=fun W hW=>h W fun b hb hc=>hW b hb (hc.imp (fun h=>by omega) id)
theorem ziJ {d n0 B:Nat}{w:World}{v:Value}{g:Val (M d)}(h:zap n0 B w fun W=>zat (zac d) W v g):zcb g.num∧∃ c:VS,v=c.val∧c.n=g.num:=zh9 h.here
theorem zp1:∀ w:World,(zeroValue 32).run Tryz.prog w= .ok (.agg #[.int .i64 0,.slice none 0 0,.slice none 0 0,.slice none 0 0]) w:=fun w=>by kernel_rfl
theorem zg4 {w:World}{r:Nat}{es:List (Int × Value)}(h:zas w r zbK es)(q:Int)(ok:Bool):(Instr.lookup 113 (.map (some r)) (.int .i64 q) ok).run Tryz.prog w= .ok (if ok then .tuple #[(zal q es).getD (.agg #[.int .i64 0,.slice none 0 0,.slice none 0 0,.slice none 0 0]),.bool (zal q es).isSome] else (zal q es).getD (.agg #[.int .i64 0,.slice none 0 0,.slice none 0 0,.slice none 0 0])) w:=
 zb3 (P:=Tryz.prog) zdD Tryz.underlying113 zp1 h q ok
theorem zia {w:World}{r:Nat}{es:List (Int × Value)}(h:zas w r zbK es)(n:Int)(v:Value) :
  (Instr.mapUpdate 113 (.map (some r)) (.int .i64 n) v).run Tryz.prog w= .ok () (za9 w r zbK (zf2 n v es)):=
 zp0 (P:=Tryz.prog) zdD zjN Tryz.underlying113 h n v
theorem zaX {w w':World}{r:Nat}{es:List (Int × Value)}(h:zas w r zbK es)(hb:Below w.heap.size w w'):zas w' r zbK es:=by
 unfold zas at *
 have hr:r<w.heap.size:=(Array.getElem?_eq_some_iff.1 h).1
 rw[hb.block r hr];exact h
theorem zaO {w:World}{r:Nat}{es':List (Int × Value)}:But r w (za9 w r zbK es'):=
 ⟨rfl,rfl,rfl,by rw[za6];exact Nat.le_refl _,fun c _ hne=>zaT hne⟩
theorem zdM {k:Int}{v:Value}{es:List (Int × Value)}(h:(es.map Prod.fst).Nodup):((zf2 k v es).map Prod.fst).Nodup:=by
 have hset:∀ es:List (Int × Value),(zfb k v es).map Prod.fst=es.map Prod.fst:=by
  intro es
  induction es with
  | nil=>rfl
  | cons e r ih =>
   obtain⟨q,u⟩:=e
   rw[zfb]
   split
   ·
    rfl
   ·
    rw[List.map_cons,List.map_cons,ih]
 unfold zf2
 split
 ·
  rw[hset];exact h
 ·
  rename_i hk
  have hn:k ∉ es.map Prod.fst:=by
   intro hm
   obtain⟨⟨k',u⟩,hu,rfl⟩:=List.mem_map.1 hm
   exact hk (by rw[(zjS h).2 hu];rfl)
  rw[List.map_append,List.nodup_append]
  refine⟨h,by simp,fun a ha b hb e=>?_⟩
  simp only[List.map_cons,List.map_nil,List.mem_singleton] at hb
  subst e
  subst hb
  exact hn ha
end
section
open Go.RowKit
theorem zeC {α:Type}{R:Int→α→Bool}{f:Fld}{v:Val α}(h:zbp R f v=true)(hk:f.kind=17)(hr:f.rep=false):∃ y,v.subs=[y]∧R f.of y=true:=by
 unfold zbp at h
 by_cases h0:v.words.length+v.texts.length+v.subs.length=0∨1<v.words.length+v.texts.length+v.subs.length∧f.rep=false
 ·
  rw[if_pos h0] at h;cases h
 ·
  rw[if_neg h0,if_neg (by rw[hk];decide),if_pos hk,Bool.and_eq_true] at h
  have h1:v.words.length=0∧v.texts.length=0:=of_decide_eq_true h.1
  have h2:v.subs.length=1:=by
   by_cases h3:1<v.words.length+v.texts.length+v.subs.length
   ·
    exact absurd (.inr ⟨h3,hr⟩) h0
   ·
    have:¬ v.words.length+v.texts.length+v.subs.length=0:=fun h=>h0 (.inl h)
    omega
  match hs:v.subs,h2 with
  | [y],_ =>
   rw[hs] at h
   exact⟨y,rfl,by simpa using h.2⟩
theorem zg5 {s:List Mes}:∀ {d:Nat} {root:Int} {y:M d},zae s d root y=true→∃ r:Nat,root=r∧r<s.length
 | 0,_,_,h=>by cases h
 | d+1,root,y,h=>by
  unfold zae at h
  by_cases h0:root<0∨(s.length:Int)≤root
  ·
   rw[if_pos h0] at h;cases h
  ·
   exact⟨root.toNat,by omega,by omega⟩
end
section
open Go.RowKit
def zaq (w:World)(base:Nat)(v:Value)(l:List (List UInt8)):Prop:=w.ownsRow base 9 1 v l.length (l.map zbA)
theorem zcW:(Tryz.prog.info? 9).map (fun i=>(i.zero,i.size,i.bytes))=some (some (.string ⟨#[]⟩),1,16):=by kernel_rfl
theorem zcI:Tryz.prog.underlying 25=some (.slice 9):=Tryz.underlying25
theorem zaq.form {w:World}{base:Nat}{v:Value}{l:List (List UInt8)}(h:zaq w base v l):∃ a c,v= .slice a l.length c:=by
 rcases h.2 with ⟨h1,h2⟩|⟨g,cap,cur,hv,-⟩
 ·
  exact⟨none,0,by rw[h1,h2]⟩
 ·
  exact⟨_,_,hv⟩
theorem zaq.strs {w:World}{base:Nat}{v:Value}{l:List (List UInt8)}(h:zaq w base v l)(hn:l.length≤140737488355328)(hl:∀ t∈l,t.length≤140737488355328):zaV w v l:=
 ⟨zbo h hn,hl⟩
theorem zaq.one {W:World}{base:Nat}{v:Value}{l:List (List UInt8)}(h:zaq W base v l)(t:List UInt8)(hn:l.length+1≤1099511627777)(hB:base≤W.heap.size) :
  ∃ v' w',(Builtin.append_ #[25,25] 25 #[v,.slice (some ⟨W.heap.size,0,none⟩) 1 1]).run Tryz.prog (W.alloc (.cells #[zbA t] 9))= .ok v' w'∧zaq w' base v' (l++[t])∧W.grownBy w' v.ownBlock:=by
 have hA:Below W.heap.size W (W.alloc (.cells #[zbA t] 9)):=(Below.refl _ _).alloc (Nat.le_refl _) _
 have hx:Seg (W.alloc (.cells #[zbA t] 9)) (.slice (some ⟨W.heap.size,0,none⟩) 1 1) 1 1 [zbA t]:=zcS (Blk.new W [zbA t] _) 1 1 rfl (by omega)
 have h':(W.alloc (.cells #[zbA t] 9)).ownsRow base 9 1 v l.length (l.map zbA):=zbk h fun b _ _ he=>hA.block b (Array.getElem?_eq_some_iff.1 he).1
 obtain⟨v',w',h1,h2,h3,-⟩:=zbb (P:=Tryz.prog) _ base 25 25 9 (.string ⟨#[]⟩) 1 16 zcI zcW rfl (by decide) v _ l.length 1 _ _ h' hx (by intro u hu;simp at hu;subst hu;rfl) (by omega) (by omega) (by simp;omega)
 refine⟨v',w',h1,?_,?_⟩
 ·
  unfold zaq
  rw[List.length_append,List.map_append]
  exact h2
 ·
  exact⟨h3.os,h3.tape,h3.output,Nat.le_trans (by simp) h3.size,fun k hk hr=>(h3.block k (by simp;omega) hr).trans (Below.heap_alloc W _ k hk)⟩
end
section
open Go.RowKit
end
section
open Go.RowKit
theorem zib {k:Int}(h:zaw k=true):k=1∨k=2∨k=3∨k=4∨k=5∨k=6∨k=7∨k=8∨k=9∨k=10∨k=11∨k=12∨k=13∨k=14:=by
 have h':1≤k∧k≤14:=of_decide_eq_true h
 omega
theorem ziK (k:Int)(hk:k=1∨k=8)(x:Nat)(w:World) :
  Calls Tryz.prog 55 #[.int .i64 k,.int .u64 x] w fun e w'=>e= .returned (.tuple #[.int .u64 (zaB k x),.int .u8 0])∧Below w.heap.size w w':=by
 have HC:Hid (zaB k x=w32 x):=by rw[Hid,zaB,if_pos hk]
 have HK:Hid (zaw k=true):=by rcases hk with rfl|rfl <;> rfl
 rcases hk with rfl|rfl
 all_goals
  go_enter Tryz.func55,Tryz.ntmps55
  go_wp2_with (first|(go_at_call 52;refine (zbF _ _).mono ?_;rintro e w1 ⟨rfl,hb⟩;rw[HK.out])|(go_at_call 90;refine (zkG x _).mono ?_;rintro e w2 ⟨rfl,rfl⟩)|(go_at_call 89;refine (zkH x _).mono ?_;rintro e w3 ⟨rfl,rfl⟩))
  go_ret2
  exact⟨by rw[HC.out];rfl,hb⟩
theorem zjT (x:Nat)(w:World) :
  Calls Tryz.prog 55 #[.int .i64 7,.int .u64 x] w fun e w'=>e= .returned (.tuple #[.int .u64 (zaB 7 x),.int .u8 0])∧Below w.heap.size w w':=by
 have HK:Hid (zaw 7=true):=rfl
 by_cases h:0<x
 ·
  have HC:Hid (zaB 7 x=1):=by simp[Hid,zaB,h]
  go_enter Tryz.func55,Tryz.ntmps55
  go_wp2_with (go_at_call 52;refine (zbF _ _).mono ?_;rintro e w1 ⟨rfl,hb⟩;rw[HK.out])
  go_ret2
  exact⟨by rw[HC.out];rfl,hb⟩
 ·
  have HC:Hid (zaB 7 x=0):=by simp[Hid,zaB,h]
  obtain rfl:x=0:=by omega
  go_enter Tryz.func55,Tryz.ntmps55
  go_wp2_with (go_at_call 52;refine (zbF _ _).mono ?_;rintro e w1 ⟨rfl,hb⟩;rw[HK.out])
  go_ret2
  exact⟨by rw[HC.out];rfl,hb⟩
theorem zic (s:ByteArray)(a b:Int)(w:World):(Instr.field 153 (.agg #[.string s,.int .i64 a,.int .i64 b]) 2).run Tryz.prog w= .ok (.int .i64 b) w:=by kernel_rfl
theorem zlA {k:Int}{n:Nat}(h:zaU k=true)(hn:kbits k=n):∀ (W:World) (r:Nat),zas W r zbK zcO →
  (Instr.lookup 154 (.map (some r)) (.int .i64 k) false).run Tryz.prog W= .ok (.agg #[.string (kname k),.int .i64 (zji k),.int .i64 n]) W:=by
 intro W r hm
 have hl:=zb3 (P:=Tryz.prog) zdD Tryz.underlying154 zgD hm k false
 rw[zeN,if_pos h,hn] at hl
 exact hl
theorem zhG (k:Int)(hk:k=3∨k=5∨k=9∨k=10∨k=11)(x:Nat)(w:World) :
  Calls Tryz.prog 55 #[.int .i64 k,.int .u64 x] w fun e w'=>e= .returned (.tuple #[.int .u64 (zaB k x),.int .u8 0])∧Below w.heap.size w w':=by
 have HC:Hid (zaB k x=x % 4294967296):=by rw[Hid,zaB,if_neg (by omega),if_neg (by omega),if_pos hk]
 have HK:Hid (zaw k=true):=by rcases hk with rfl|rfl|rfl|rfl|rfl <;> rfl
 have HL:=hid (zlA (k:=k) (n:=32) (by rcases hk with rfl|rfl|rfl|rfl|rfl <;> rfl) (by rcases hk with rfl|rfl|rfl|rfl|rfl <;> rfl))
 rcases hk with rfl|rfl|rfl|rfl|rfl
 all_goals
  go_enter Tryz.func55,Tryz.ntmps55
  go_wp2_with (go_at_call 52;refine (zbF _ _).mono ?_;rintro e w1 ⟨rfl,hb⟩;rw[HK.out])
  refine (zet _).mono ?_
  rintro e w2 ⟨r,hm,hr,hb2,rfl⟩
  have hl:=HL.out w2 r hm
  have hfd:=zic
  have HB:Hid (Below w.heap.size w w2):=hb.trans (hb2.mono hb.size)
  clear hb hb2
  go_wp2_with (go_at_call 92;refine (zmf x _).mono ?_;rintro e w3 ⟨rfl,rfl⟩)
  go_ret2
  exact⟨by rw[HC.out];first|rfl|go_num|(simp[go_sem];omega),HB.out⟩
theorem zf4 (k:Int)(hk:k=2∨k=4∨k=6∨k=12∨k=13∨k=14)(x:Nat)(w:World) :
  Calls Tryz.prog 55 #[.int .i64 k,.int .u64 x] w fun e w'=>e= .returned (.tuple #[.int .u64 (zaB k x),.int .u8 0])∧Below w.heap.size w w':=by
 have HC:Hid (zaB k x=x):=by rw[Hid,zaB,if_neg (by omega),if_neg (by omega),if_neg (by omega)]
 have HK:Hid (zaw k=true):=by rcases hk with rfl|rfl|rfl|rfl|rfl|rfl <;> rfl
 have HL:=hid (zlA (k:=k) (n:=64) (by rcases hk with rfl|rfl|rfl|rfl|rfl|rfl <;> rfl) (by rcases hk with rfl|rfl|rfl|rfl|rfl|rfl <;> rfl))
 rcases hk with rfl|rfl|rfl|rfl|rfl|rfl
 all_goals
  go_enter Tryz.func55,Tryz.ntmps55
  go_wp2_with (go_at_call 52;refine (zbF _ _).mono ?_;rintro e w1 ⟨rfl,hb⟩;rw[HK.out])
  refine (zet _).mono ?_
  rintro e w2 ⟨r,hm,hr,hb2,rfl⟩
  have hl:=HL.out w2 r hm
  have hfd:=zic
  have HB:Hid (Below w.heap.size w w2):=hb.trans (hb2.mono hb.size)
  clear hb hb2
  go_wp2_with fail
  go_ret2
  exact⟨by rw[HC.out];rfl,HB.out⟩
theorem zmi {k:Int}(hk:zaw k=true)(x:Nat)(w:World) :
  Calls Tryz.prog 55 #[.int .i64 k,.int .u64 x] w fun e w'=>e= .returned (.tuple #[.int .u64 (zaB k x),.int .u8 0])∧Below w.heap.size w w':=by
 rcases zib hk with h|h|h|h|h|h|h|h|h|h|h|h|h|h
 case inr.inr.inr.inr.inr.inr.inl=>subst h;exact zjT x w
 all_goals first
  | exact ziK k (by omega) x w
  | exact zhG k (by omega) x w
  | exact zf4 k (by omega) x w
theorem zkI {k:Int}(hk:zaw k=true)(x:Nat)(w:World) :
  Calls Tryz.prog 36 #[.int .i64 k,.int .u64 x] w fun e w'=>e= .returned (.int .u64 (zaB k x))∧w=w':=by
 have H32:Hid ((k=1∨k=8)→zaB k x=w32 x):=fun h=>by rw[zaB,if_pos h]
 have HLO:Hid ((k=3∨k=5∨k=9∨k=10∨k=11)→zaB k x=x % 4294967296):=fun h=>by rw[zaB,if_neg (by omega),if_neg (by omega),if_pos h]
 have HWH:Hid ((k=2∨k=4∨k=6∨k=12∨k=13∨k=14)→zaB k x=x):=fun h=>by rw[zaB,if_neg (by omega),if_neg (by omega),if_neg (by omega)]
 have H7:Hid (k=7→zaB k x=if 0<x then 1 else 0):=fun h=>by rw[zaB,if_neg (by omega),if_pos h]
 have hk':=zib hk
 clear hk
 rcases hk' with rfl|rfl|rfl|rfl|rfl|rfl|rfl|rfl|rfl|rfl|rfl|rfl|rfl|rfl
 case inr.inr.inr.inr.inr.inr.inl =>
  by_cases h:0<x
  ·
   have HC:Hid (zaB 7 x=1):=by rw[Hid,H7.out rfl,if_pos h]
   go_enter Tryz.func36,Tryz.ntmps36
   go_wp2_with fail
   go_ret
   exact⟨by rw[HC.out];rfl,rfl⟩
  ·
   have HC:Hid (zaB 7 x=0):=by rw[Hid,H7.out rfl,if_neg h]
   go_enter Tryz.func36,Tryz.ntmps36
   go_wp2_with fail
   go_ret
   exact⟨by rw[HC.out];rfl,rfl⟩
 all_goals
  go_enter Tryz.func36,Tryz.ntmps36
  go_wp2_with (first|(go_at_call 72;refine (zjP x _).mono ?_;rintro e w2 ⟨rfl,rfl⟩)|(go_at_call 71;refine (zmg x _).mono ?_;rintro e w3 ⟨rfl,rfl⟩))
  go_ret
  first
   | exact⟨by rw[H32.out (by decide)];rfl,rfl⟩
   | exact⟨by rw[HLO.out (by decide)];exact zcG (zbC (by omega)),rfl⟩
   | exact⟨by rw[HWH.out (by decide)];rfl,rfl⟩
end
section
open Go.RowKit
end
section
open Go.RowKit
end
end Go.Proofs.YtdpnmdkbdibkpaaGreatDoor
