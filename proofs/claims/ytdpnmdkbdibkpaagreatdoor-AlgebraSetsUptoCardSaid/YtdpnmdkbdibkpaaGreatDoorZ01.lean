/- Parts of a proof: texts of the author, merged. No condition of their own. -/
import Derived.Test.YtdpnmdkbdibkpaaGreatDoorProg
import Derived.WalkKit
import Derived.Deep.QuietTactic
import Derived.BigQuiet
import Derived.WalkSpells
import Derived.WalkLawsBesides
import Init
namespace Go.Proofs.YtdpnmdkbdibkpaaGreatDoor
set_option maxRecDepth 100000
set_option maxHeartbeats 16000000
section
open Go.RowKit
theorem hid {p:Prop}(h:p):Hid p:=h
def Seg (w:World)(v:Value)(size n:Nat)(xs:List Value):Prop:=
 xs.length=n*size∧n≤140737488355328∧∃ a cap,v= .slice a n cap∧n≤cap∧cap≤9223372036854775807∧(a=none→cap=0) ∧
  ∀ j u,xs[j]?=some u→∃ b o,a=some ⟨b,o,none⟩∧w.cell? ⟨b,o+j,none⟩=some u
def zgz (c:UInt8):Value:=.int .u8 (c.toNat:Int)
def zay (w:World)(v:Value)(l:List UInt8):Prop:=Seg w v 1 l.length (l.map zgz)
theorem Seg.keep {w w':World}{v:Value}{size n:Nat}{xs:List Value}(h:Seg w v size n xs)(hk:∀ p u,w.cell? p=some u→w'.cell? p=some u):Seg w' v size n xs:=by
 obtain⟨h1,h2,a,cap,hv,h3,h4,h5,h6⟩:=h
 exact⟨h1,h2,a,cap,hv,h3,h4,h5,fun j u hu=>let ⟨b,o,ha,hc⟩:=h6 j u hu;⟨b,o,ha,hk _ _ hc⟩⟩
theorem zaa {w w':World}(h:Below w.heap.size w w'):∀ p u,w.cell? p=some u→w'.cell? p=some u:=fun p _ hu =>
 (Below.cell h (World.block_lt_of_cell? w p hu)).trans hu
theorem Seg.below {w w':World}{v:Value}{size n:Nat}{xs:List Value}(h:Seg w v size n xs)(hb:Below w.heap.size w w'):Seg w' v size n xs:=h.keep (zaa hb)
theorem zay.below {w w':World}{v:Value}{l:List UInt8}(h:zay w v l)(hb:Below w.heap.size w w'):zay w' v l:=Seg.below h hb
theorem zdy (b o k:Nat):(⟨b,o,none⟩:Addr).add k=⟨b,o+k,none⟩:=by unfold Addr.add;split <;> simp_all
theorem zay.open {w:World}{v:Value}{l:List UInt8}(h:zay w v l) :
  l.length≤140737488355328∧∃ a cap,v= .slice a l.length cap∧l.length≤cap∧cap≤9223372036854775807∧(a=none→cap=0) ∧
   ∀ k,k<l.length→∃ b o,a=some ⟨b,o,none⟩∧w.cell? ⟨b,o+k,none⟩=some (.int .u8 ((l.getD k 0).toNat:Int)):=by
 obtain⟨_,h2,a,cap,hv,h3,h4,h5,h6⟩:=h
 refine⟨h2,a,cap,hv,h3,h4,h5,fun k hk=>?_⟩
 refine h6 k _ ?_
 simp[List.getD,hk,zgz]
theorem zad {P:Program}{t e:TypeId}{s:Nat}(ht:P.underlying t=some (.slice e))(hs:∀ w:World,(sizeOf e).run P w= .ok s w){a:Option Addr}{b o len cap:Nat}(ha:a=some ⟨b,o,none⟩)(k:Nat)(hk:k<len)(w:World) :
  (Instr.indexAt t (.slice a len cap) (.int .i64 (k:Int))).run P w= .ok (.pointer (some ⟨b,o+k*s,none⟩)) w:=by
 subst ha
 have ht':P.underlying t=some (.slice (P.elem t)):=by rw[ht];simp[Program.elem,ht]
 have he:P.elem t=e:=by rw[ht] at ht';cases ht';rfl
 rw[run_indexAt_slice (h:=ht'),if_pos (by omega),he,hs]
 simp[Result.andThen,zdy]
theorem zag {P:Program}{t e:TypeId}(ht:P.underlying t=some (.slice e))(hs:∀ w:World,(sizeOf e).run P w= .ok 1 w){a:Option Addr}{b o len cap:Nat}(ha:a=some ⟨b,o,none⟩)(k:Nat)(hk:k<len)(w:World) :
  (Instr.indexAt t (.slice a len cap) (.int .i64 (k:Int))).run P w= .ok (.pointer (some ⟨b,o+k,none⟩)) w:=by
 have:=zad ht hs ha k hk w (cap:=cap)
 rwa [Nat.mul_one] at this
theorem zcw (w:World):(sizeOf 5).run Tryz.prog w= .ok 1 w:=by kernel_rfl
theorem zaH:Tryz.prog.underlying 88=some (.slice 5):=Tryz.underlying88
theorem ret3 {a b c a' b' c':Value}(ha:a=a')(hb:b=b')(hc:c=c'):Ending.returned (.tuple #[a,b,c])= .returned (.tuple #[a',b',c']):=by rw[ha,hb,hc]
theorem ret2 {a b a' b':Value}(ha:a=a')(hb:b=b'):Ending.returned (.tuple #[a,b])= .returned (.tuple #[a',b']):=by rw[ha,hb]
theorem zcG {a a':Value}(ha:a=a'):Ending.returned a= .returned a':=by rw[ha]
theorem zbC {k:IntKind}{a b:Int}(h:a=b):Value.int k a= .int k b:=by rw[h]
theorem zlT {W w1:World}(hb:Below W.heap.size W w1):(∀ b o,b<W.heap.size→w1.cell? ⟨b,o,none⟩=W.cell? ⟨b,o,none⟩)∧(∀ b o,b<W.heap.size→w1.frozen? ⟨b,o,none⟩=W.frozen? ⟨b,o,none⟩):=
 ⟨fun b o h=>hb.cell (p:=⟨b,o,none⟩) h,fun b o h=>hb.frozen (p:=⟨b,o,none⟩) h⟩
/-! A slice of a slice -/
theorem Seg.sub {w:World}{a:Option Addr}{size n cap:Nat}{xs:List Value}(h:Seg w (.slice a n cap) size n xs)(i j:Nat)(hij:i≤j)(hj:j≤n) :
  Seg w (sliced a i j cap size) size (j - i) ((xs.drop (i*size)).take ((j - i)*size)):=by
 obtain⟨h1,h2,a',cap',hv,h3,h4,h5,h6⟩:=h
 cases hv
 refine⟨?_,by omega,_,_,rfl,by omega,by omega,?_,?_⟩
 ·
  rw[List.length_take,List.length_drop,h1]
  have e1:n*size - i*size=(n - i)*size:=(Nat.sub_mul _ _ _).symm
  have:(j - i)*size≤(n - i)*size:=Nat.mul_le_mul_right _ (by omega)
  omega
 ·
  intro ha
  split at ha
  ·
   omega
  ·
   have:a=none:=by cases a <;> simp_all
   have:=h5 this
   omega
 ·
  intro k u hu
  rw[List.getElem?_take] at hu
  split at hu
  ·
   rename_i hk
   rw[List.getElem?_drop] at hu
   obtain⟨b,o,ha,hc⟩:=h6 _ _ hu
   have hne:cap≠i:=by
    intro e
    have:j - i=0:=by omega
    simp[this] at hk
   refine⟨b,o+i*size,?_,by rw[Nat.add_assoc];exact hc⟩
   rw[if_neg hne,ha]
   simp[zdy]
  ·
   cases hu
theorem zja {P:Program}{t e:TypeId}{s:Nat}(ht:P.underlying t=some (.slice e))(hs:∀ w:World,(sizeOf e).run P w= .ok s w)(a:Option Addr)(len cap i j:Nat)(hij:i≤j)(hj:j≤cap)(W:World) :
  (Instr.slice t (.slice a len cap) (some (.int .i64 (i:Int))) (some (.int .i64 (j:Int))) none).run P W= .ok (sliced a i j cap s) W:=by
 have ht':P.underlying t=some (.slice (P.elem t)):=by rw[ht];simp[Program.elem,ht]
 have he:P.elem t=e:=by rw[ht] at ht';cases ht';rfl
 rw[run_slice_lh (ht:=ht') (h0:=by omega) (h1:=by omega) (h2:=by omega),he,hs]
 simp[Result.andThen]
theorem zgA {P:Program}{t e:TypeId}{s:Nat}(ht:P.underlying t=some (.slice e))(hs:∀ w:World,(sizeOf e).run P w= .ok s w)(a:Option Addr)(len cap i:Nat)(hi:i≤len)(W:World) :
  (Instr.slice t (.slice a len cap) (some (.int .i64 (i:Int))) none none).run P W= .ok (sliced a i len cap s) W:=by
 have ht':P.underlying t=some (.slice (P.elem t)):=by rw[ht];simp[Program.elem,ht]
 have he:P.elem t=e:=by rw[ht] at ht';cases ht';rfl
 rw[run_slice_l (ht:=ht') (h0:=by omega) (h1:=by omega),he,hs]
 simp[Result.andThen]
theorem zdz {P:Program}{t e:TypeId}{s:Nat}(ht:P.underlying t=some (.slice e))(hs:∀ w:World,(sizeOf e).run P w= .ok s w)(a:Option Addr)(len cap j:Nat)(hj:j≤cap)(W:World) :
  (Instr.slice t (.slice a len cap) none (some (.int .i64 (j:Int))) none).run P W= .ok (sliced a 0 j cap s) W:=by
 have ht':P.underlying t=some (.slice (P.elem t)):=by rw[ht];simp[Program.elem,ht]
 have he:P.elem t=e:=by rw[ht] at ht';cases ht';rfl
 rw[run_slice_h (ht:=ht') (h0:=by omega) (h2:=by omega),he,hs]
 simp[Result.andThen]
theorem zay.lh {w:World}{a:Option Addr}{n cap:Nat}{l:List UInt8}(h:zay w (.slice a n cap) l)(hn:n=l.length)(i j:Nat)(hij:i≤j)(hj:j≤n) :
  ∃ v',(∀ W,(Instr.slice 88 (.slice a n cap) (some (.int .i64 (i:Int))) (some (.int .i64 (j:Int))) none).run Tryz.prog W= .ok v' W)∧zay w v' ((l.drop i).take (j - i)):=by
 subst hn
 have hcap:l.length≤cap:=by obtain⟨_,_,a',cap',hv,h3,_⟩:=h;cases hv;exact h3
 refine⟨_,fun W=>zja zaH zcw a _ cap i j hij (by omega) W,?_⟩
 have hs:=Seg.sub h i j hij hj
 unfold zay
 rw[List.length_take,List.length_drop,Nat.min_eq_left (by omega),List.map_take,List.map_drop]
 simpa using hs
theorem zay.l {w:World}{a:Option Addr}{n cap:Nat}{l:List UInt8}(h:zay w (.slice a n cap) l)(hn:n=l.length)(i:Nat)(hi:i≤n) :
  ∃ v',(∀ W,(Instr.slice 88 (.slice a n cap) (some (.int .i64 (i:Int))) none none).run Tryz.prog W= .ok v' W)∧zay w v' (l.drop i):=by
 subst hn
 refine⟨_,fun W=>zgA zaH zcw a _ cap i hi W,?_⟩
 have hs:=Seg.sub h i l.length hi (Nat.le_refl _)
 unfold zay
 rw[List.length_drop,List.map_drop]
 rw[Nat.mul_one,Nat.mul_one,List.take_of_length_le (by simp)] at hs
 exact hs
theorem zay.drewN {w:World}{v:Value}{l:List UInt8}(h:zay w v l)(n:Nat):zay (w.drewN n) v l:=Seg.keep h fun _ _ hu=>hu
theorem zep {P:Program}{f:FuncId}{args:Array Value}{w:World}{n:Nat}{v:Value}
  (h:Calls P f args (w.drewN n) fun e w'=>e= .returned v∧w.drewN n=w'):Calls P f args (w.drewN n) fun e w''=>e= .returned v∧∃ m,w''=w.drewN m:=
 h.mono fun _ _ ⟨he,hm⟩=>⟨he,n,hm.symm⟩
theorem pzA {B:Nat} {a w:World} (h:Below B a w) {p:Addr} (u:Value) (hp:B ≤ p.block:=by first|omega|(simp;omega)|(simp;done)):Below B a (w.setCell p u):=h.setCell hp u
theorem pzB {B:Nat} {a w:World} (h:Below B a w) (o:Obj) (hB:B ≤ w.heap.size:=by first|omega|(simp;omega)|(simp;done)):Below B a (w.alloc o):=h.alloc hB o
theorem zab {w w':World}{B:Nat}(h:Below B w w')(n:Nat):Below B w (w'.drewN n):=⟨h.os,h.tape,h.output,h.size,h.block⟩
theorem zcM {w w1:World}{o:Obj}(hb:Below (w.alloc o).heap.size (w.alloc o) w1):Below w.heap.size w w1:=
 ((Below.refl _ _).alloc (Nat.le_refl _) _).trans (hb.mono (by simp))
theorem zai {B:Nat}{w w1 w2:World}(h:Below B w w1)(hb:Below w1.heap.size w1 w2)(hB:B≤w1.heap.size):Below B w w2:=h.trans (hb.mono hB)
theorem zay.cut {w:World}{a:Option Addr}{n cap:Nat}{l:List UInt8}(h:zay w (.slice a n cap) l)(hn:n=l.length)(i j:Nat)(hij:i≤j)(hj:j≤n) :
  ∃ a' cap',(∀ W,(Instr.slice 88 (.slice a n cap) (some (.int .i64 (i:Int))) (some (.int .i64 (j:Int))) none).run Tryz.prog W= .ok (.slice a' (j - i) cap') W) ∧
   (∀ k,k<j - i→∃ b o,a'=some ⟨b,o,none⟩∧w.cell? ⟨b,o+k,none⟩=some (.int .u8 ((l.getD (i+k) 0).toNat:Int)))∧zay w (.slice a' (j - i) cap') ((l.drop i).take (j - i)):=by
 obtain⟨v',hr,hb⟩:=h.lh hn i j hij hj
 have hb':=hb
 obtain⟨_,a',cap',rfl,_,_,_,hc⟩:=hb.open
 have hl:((l.drop i).take (j - i)).length=j - i:=by rw[List.length_take,List.length_drop];omega
 rw[hl] at hr hb' hc
 refine⟨a',cap',hr,fun k hk=>?_,hb'⟩
 obtain⟨b,o,ha,hcell⟩:=hc k hk
 refine⟨b,o,ha,hcell.trans ?_⟩
 simp[List.getD,hk,List.getElem?_drop]
theorem zir {P:Program}{t e:TypeId}(ht:P.underlying t=some (.slice e))(hs:∀ w:World,(sizeOf e).run P w= .ok 1 w){a:Option Addr}{b o len cap:Nat}(ha:a=some ⟨b,o,none⟩)(hk:0<len)(w:World) :
  (Instr.indexAt t (.slice a len cap) (.int .i64 0)).run P w= .ok (.pointer (some ⟨b,o,none⟩)) w:=zag ht hs ha 0 hk w
/-! string(b) -/
theorem zlU (l:List UInt8)(s:ByteArray):(l.map fun c=>(c.toNat:Int)).foldl (fun r n=>r.push (UInt8.ofNat n.toNat)) s=⟨s.data++l.toArray⟩:=by
 induction l generalizing s with
 | nil=>simp
 | cons c t ih =>
  rw[List.map_cons,List.foldl_cons,ih]
  apply ByteArray.ext
  simp[ByteArray.push]
theorem zay.str {w:World}{v:Value}{l:List UInt8}(h:zay w v l):(convert 88 9 v).run Tryz.prog w= .ok (.string ⟨l.toArray⟩) w:=by
 obtain⟨h1,h2,a,cap,rfl,h3,h4,h5,h6⟩:=h
 rw[run_convert_bytes_string w _ _ 5 a l.length cap zaH Tryz.underlying5 Tryz.underlying9]
 have hmap:l.map zgz=(l.map fun c=>(c.toNat:Int)).map (Value.int .u8):=by simp[zgz]
 cases ha:a with
 | none =>
  have:=h5 ha
  obtain rfl:l=[]:=List.eq_nil_of_length_eq_zero (by omega)
  rfl
 | some ad =>
  have hl:=run_loadCells_list (P:=Tryz.prog) (w:=w) ad (l.map zgz) (fun j u hu=>by
   obtain⟨b,o,e,hc⟩:=h6 j u hu
   rw[ha] at e
   cases e
   rw[zdy];exact hc)
  rw[List.length_map,hmap] at hl
  rw[run_bytesToString w ad l.length cap _ hl,zlU]
  simp
theorem zeZ (w:World)(T:TypeId)(cells:Array Value)(l:List UInt8)(h:cells.toList=l.map zgz)(hl:l.length≤140737488355328) :
  zay (w.alloc (.cells cells T)) (.slice (some ⟨w.heap.size,0,none⟩) l.length l.length) l:=by
 refine⟨by simp,hl,_,_,rfl,Nat.le_refl _,by omega,by simp,fun j u hu=>⟨_,_,rfl,?_⟩⟩
 rw[Nat.zero_add,cell_of_row _ _ _ cells T (0,0) (heap_alloc_new w _)]
 rw[←h] at hu
 simpa using hu
theorem zjb (w:World):zay w (.slice none 0 0) []:=⟨rfl,by simp,_,_,rfl,Nat.le_refl _,by omega,fun _=>rfl,fun j u hu=>by simp at hu⟩
def zd8 (w w':World):Prop:=∃ k,w'=w.drewN k
theorem zd8.refl (w:World):zd8 w w:=⟨0,rfl⟩
theorem zd8.step {w w':World}(h:zd8 w w')(k:Nat):zd8 w (w'.drewN k):=by obtain⟨j,rfl⟩:=h;exact⟨_,World.drewN_drewN _ _ _⟩
theorem zd8.trans {w w' w2:World}(h:zd8 w w')(h2:zd8 w' w2):zd8 w w2:=by obtain⟨j,rfl⟩:=h2;exact h.step j
theorem zd8.keeps {w w':World}(h:zd8 w w'):∀ p u,w.cell? p=some u→w'.cell? p=some u:=by obtain⟨j,rfl⟩:=h;exact fun _ _ h=>h
theorem zd8.below {w w':World}(h:zd8 w w'):Below w.heap.size w w':=by obtain⟨j,rfl⟩:=h;exact zab (Below.refl _ _) _
theorem zd8.at_drewN (w:World)(k:Nat):zd8 w (w.drewN k):=⟨k,rfl⟩
end
section
def vgo:Nat→Nat→List UInt8→Nat × Nat × Nat
 | _,_,[]=>(0,0,3)
 | i,acc,c::r=>if i=9∧1<c.toNat then (0,0,4) else if c.toNat<128 then (acc+c.toNat*128 ^ i,i+1,0) else vgo (i+1) (acc+(c.toNat - 128)*128 ^ i) r
def zaN (l:List UInt8):Nat × Nat × Nat:=vgo 0 0 l
def zbD:Nat→List UInt8→Nat
 | 0,_=>0
 | _,[]=>0
 | n+1,c::r=>c.toNat % 128+128*zbD n r
theorem zm4:∀ (n i acc:Nat) (l:List UInt8),(∀ j,j<n→128≤(l.getD j 0).toNat)→i+n≤9→n<l.length→(l.getD n 0).toNat<128→(i+n=9→(l.getD n 0).toNat≤1) →
  vgo i acc l=(acc+128 ^ i*zbD (n+1) l,i+n+1,0)
 | 0,i,acc,[],_,_,h,_,_=>by simp at h
 | 0,i,acc,c::r,_,h1,_,h2,h3=>by
  simp at h2 h3
  rw[vgo,if_neg (by omega),if_pos h2]
  simp[zbD,Nat.mod_eq_of_lt h2,Nat.mul_comm]
 | n+1,i,acc,[],_,_,h,_,_=>by simp at h
 | n+1,i,acc,c::r,h,h1,h2,h3,h4=>by
  have hc:=h 0 (by omega)
  simp at hc h2 h3 h4
  rw[vgo,if_neg (by omega),if_neg (by omega),zm4 n (i+1) _ r (fun j hj=>by simpa using h (j+1) (by omega)) (by omega) h2 (by simpa using h3) (by intro e;simpa using h4 (by omega))]
  have e1:c.toNat % 128=c.toNat - 128:=by have:=c.toNat_lt;omega
  have e3:zbD (n+1+1) (c::r)=c.toNat % 128+128*zbD (n+1) r:=rfl
  rw[e3,e1,Nat.pow_succ,Nat.mul_add]
  generalize zbD (n+1) r=q
  have e2:128 ^ i*128*q=128 ^ i*(128*q):=Nat.mul_assoc _ _ _
  rw[e2,Nat.mul_comm (c.toNat - 128),Nat.add_assoc]
  refine Prod.ext rfl (Prod.ext ?_ rfl)
  show i+1+n+1=i+(n+1)+1
  omega
theorem zjc:∀ (l:List UInt8) (i acc:Nat),(∀ j,j<l.length→128≤(l.getD j 0).toNat)→i+l.length≤9→vgo i acc l=(0,0,3)
 | [],_,_,_,_=>rfl
 | c::r,i,acc,h,h1=>by
  have hc:=h 0 (by simp)
  simp at hc h1
  rw[vgo,if_neg (by omega),if_neg (by omega)]
  exact zjc r (i+1) _ (fun j hj=>by simpa using h (j+1) (by simp;omega)) (by omega)
theorem zgi:∀ (n:Nat) (l:List UInt8) (i acc:Nat),(∀ j,j<n→128≤(l.getD j 0).toNat)→i+n=9→n<l.length→1<(l.getD n 0).toNat→vgo i acc l=(0,0,4)
 | 0,[],_,_,_,_,h,_=>by simp at h
 | 0,c::r,i,acc,_,h1,_,h2=>by
  simp at h2
  rw[vgo,if_pos (by omega)]
 | n+1,[],_,_,_,_,h,_=>by simp at h
 | n+1,c::r,i,acc,h,h1,h2,h3=>by
  have hc:=h 0 (by omega)
  simp at hc h2 h3
  rw[vgo,if_neg (by omega),if_neg (by omega)]
  exact zgi n r (i+1) _ (fun j hj=>by simpa using h (j+1) (by omega)) (by omega) h2 (by simpa using h3)
theorem zhR:∀ (l:List UInt8) (i acc:Nat),i≤9→acc<128 ^ i →
  ((vgo i acc l).2.2=0∧i<(vgo i acc l).2.1∧(vgo i acc l).2.1≤10∧(vgo i acc l).2.1≤i+l.length∧(vgo i acc l).1<2 ^ 64) ∨
   ((vgo i acc l).1=0∧(vgo i acc l).2.1=0∧((vgo i acc l).2.2=3∨(vgo i acc l).2.2=4))
 | [],i,acc,_,_=> .inr ⟨rfl,rfl,.inl rfl⟩
 | c::r,i,acc,hi,ha=>by
  rw[vgo]
  split
  ·
   exact .inr ⟨rfl,rfl,.inr rfl⟩
  ·
   split
   ·
    refine .inl ⟨rfl,by simp,by simp;omega,by simp,?_⟩
    show acc+c.toNat*128 ^ i<2 ^ 64
    rename_i h9 h128
    have e9:(128:Nat) ^ 9=2 ^ 63:=by decide
    by_cases e:i=9
    ·
     subst e
     have:c.toNat*128 ^ 9≤1*128 ^ 9:=Nat.mul_le_mul_right _ (by omega)
     omega
    ·
     have h1:c.toNat*128 ^ i≤127*128 ^ i:=Nat.mul_le_mul_right _ (by omega)
     have h2:(128:Nat) ^ (i+1)≤128 ^ 9:=Nat.pow_le_pow_right (by omega) (by omega)
     rw[Nat.pow_succ] at h2
     omega
   ·
    rename_i h9 h128
    have hi':i+1≤9:=by
     by_cases e:i=9
     ·
      subst e;omega
     ·
      omega
    have ha':acc+(c.toNat - 128)*128 ^ i<128 ^ (i+1):=by
     have:=c.toNat_lt
     have h1:(c.toNat - 128)*128 ^ i≤127*128 ^ i:=Nat.mul_le_mul_right _ (by omega)
     rw[Nat.pow_succ]
     omega
    rcases zhR r (i+1) _ hi' ha' with ⟨a1,a2,a3,a4,a5⟩|h
    ·
     exact .inl ⟨a1,by omega,a3,by simp;omega,a5⟩
    ·
     exact .inr h
theorem zdA (l:List UInt8):(∃ w n,zaN l=(w,n,0)∧0<n∧n≤10∧n≤l.length∧w<2 ^ 64)∨(∃ c,zaN l=(0,0,c)∧(c=3∨c=4)):=by
 have h:=zhR l 0 0 (by omega) (by simp)
 unfold zaN
 generalize vgo 0 0 l=x at h ⊢
 obtain⟨w,n,c⟩:=x
 simp at h
 rcases h with ⟨rfl,h1,h2,h3,h4⟩|⟨rfl,rfl,h⟩
 ·
  exact .inl ⟨w,n,rfl,h1,h2,h3,h4⟩
 ·
  exact .inr ⟨c,rfl,h⟩
theorem zdB:∀ (m n:Nat) (l:List UInt8),m≤n→zbD (n - m) (l.drop m)≤zbD n l
 | 0,n,l,_=>by simp
 | m+1,0,l,h=>by omega
 | m+1,n+1,[],_=>by
  simp[zbD]
  cases n - m <;> simp[zbD]
 | m+1,n+1,c::r,h=>by
  have:=zdB m n r (by omega)
  have e:n+1 - (m+1)=n - m:=by omega
  rw[e]
  simp only[zbD,List.drop_succ_cons]
  omega
theorem zgB (n:Nat)(l:List UInt8)(h:0<l.length):zbD (n+1) l=128*zbD n (l.drop 1)+(l.getD 0 0).toNat % 128:=by
 cases l with
 | nil=>simp at h
 | cons c r=>simp[zbD];omega
end
section
open Go.RowKit
theorem zpM (acc k c:Nat)(ha:acc<128 ^ k)(hk:k≤9)(hc:c<256)(h9:k=9→c≤1) :
  bits .or .u64 (acc:Int) (IntKind.u64.wrap (IntKind.u64.wrap (bits .and .u8 (c:Int) 127)*2 ^ (7*k)))=((acc+c % 128*128 ^ k:Nat):Int):=by
 have e1:bits .and .u8 (c:Int) 127=((c % 128:Nat):Int):=by
  have:=bits_mask .u8 8 (by decide) wraps_u8 7 (by decide) (c:Int) (by omega) (by omega)
  simpa using this
 have e2:(2:Int) ^ (7*k)=((128 ^ k:Nat):Int):=by
  rw[Int.pow_mul];simp
 have p9:(128:Nat) ^ k≤128 ^ 9:=Nat.pow_le_pow_right (by omega) hk
 have e9:(128:Nat) ^ 9=2 ^ 63:=by decide
 have hlt:acc+c % 128*128 ^ k<2 ^ 64:=by
  by_cases e:k=9
  ·
   subst e
   have:=h9 rfl
   have:c % 128*128 ^ 9≤1*128 ^ 9:=Nat.mul_le_mul_right _ (by omega)
   omega
  ·
   have h1:c % 128*128 ^ k≤127*128 ^ k:=Nat.mul_le_mul_right _ (by omega)
   have h2:(128:Nat) ^ (k+1)≤128 ^ 9:=Nat.pow_le_pow_right (by omega) (by omega)
   rw[Nat.pow_succ] at h2
   omega
 have e3:IntKind.u64.wrap ((c % 128:Nat):Int)=((c % 128:Nat):Int):=by
  rw[IntKind.wrap_u64];omega
 have e4:IntKind.u64.wrap (((c % 128:Nat):Int)*((128 ^ k:Nat):Int))=((c % 128*128 ^ k:Nat):Int):=by
  rw[IntKind.wrap_u64,←Int.natCast_mul];omega
 rw[e1,e3,e2,e4,bits_or_u64_nat _ _ (by omega) (by omega)]
 congr 1
 have:=Nat.two_pow_add_eq_or_of_lt (i:=7*k) (b:=acc) (by rw[Nat.pow_mul];exact ha) (c % 128)
 rw[Nat.or_comm,Nat.add_comm,Nat.mul_comm (c % 128)]
 rw[Nat.pow_mul] at this
 exact this.symm
theorem vgo_at (l:List UInt8)(k acc:Nat)(hk:k<l.length):vgo k acc (l.drop k) =
  (if k=9∧1<(l.getD k 0).toNat then (0,0,4) else if (l.getD k 0).toNat<128 then (acc+(l.getD k 0).toNat*128 ^ k,k+1,0) else vgo (k+1) (acc+((l.getD k 0).toNat - 128)*128 ^ k) (l.drop (k+1))):=by
 rw[List.drop_eq_getElem_cons hk,vgo]
 simp[List.getD,hk]
theorem zoL (acc k c:Nat)(ha:acc<128 ^ k):acc+c % 128*128 ^ k<128 ^ (k+1):=by
 have h1:c % 128*128 ^ k≤127*128 ^ k:=Nat.mul_le_mul_right _ (by omega)
 rw[Nat.pow_succ]
 omega
theorem zch {w:World}{v:Value}{l:List UInt8}(h:zay w v l) :
  Calls Tryz.prog 183 #[v] w fun e w'=>e= .returned (.tuple #[.int .u64 (zaN l).1,.int .i64 (zaN l).2.1,.int .u8 (zaN l).2.2])∧w=w':=by
 obtain⟨hlen,a,cap,rfl,-,-,-,hcell⟩:=h.open
 obtain⟨n,HN⟩:∃ n,Hid (n=l.length):=⟨_,rfl⟩
 rw[←HN.out] at hcell hlen ⊢
 go_enter Tryz.func183,Tryz.ntmps183
 go_wp2
 go_loop [5,10] (fun v5 v10=>∃ k acc:Nat,k≤n∧k≤9∧v5= .int .u64 acc∧v10= .int .i64 k∧Hid (acc<128 ^ k∧vgo k acc (l.drop k)=zaN l)) (fun _ i=>n - (intOf i).toNat)
 case atStart=>exact⟨0,0,by omega,by omega,rfl,rfl,by simp,rfl⟩
 case round =>
  obtain⟨k,acc,hk,hk2,rfl,rfl,HA⟩:=hrel
  by_cases hlt:k<n
  ·
   obtain⟨b,o,ha,hc0⟩:=hcell k hlt
   have hi:=zag zaH zcw ha k hlt (cap:=cap)
   have hvg:=hid (vgo_at l k acc (by rw[←HN.out];exact hlt))
   obtain⟨c,HC⟩:∃ c,Hid (c=(l.getD k 0).toNat):=⟨_,rfl⟩
   have hcb:c<256:=by rw[HC.out];exact (l.getD k 0).toNat_lt
   rw[←HC.out] at hc0 hvg
   have HAA:=hid ha
   have HS:=hid (zpM acc k c HA.out.1 hk2 hcb)
   clear ha hcell HC
   by_cases h9:k=9
   ·
    have h9':((k:Int) == 9)=true:=by simp;omega
    have H9:=hid h9
    clear h9
    go_wp2
    ·
     have h1:1<(c:Int):=by assumption
     go_ret3
     have hv:zaN l=(0,0,4):=by rw[←HA.out.2,hvg.out,if_pos ⟨H9.out,by omega⟩]
     rw[hv]
     exact⟨rfl,rfl⟩
    ·
     have h1:(c:Int)≤1:=by assumption
     go_ret3
     have hv:zaN l=(acc+c*128 ^ k,k+1,0):=by rw[←HA.out.2,hvg.out,if_neg (by omega),if_pos (by omega)]
     rw[hv]
     have hs:=HS.out (fun _=>by omega)
     rw[Nat.mod_eq_of_lt (by omega)] at hs
     exact⟨ret3 (zbC hs) (by go_num) rfl,rfl⟩
   ·
    have h9':((k:Int) == 9)=false:=by simp;omega
    have hk3:k<9:=by omega
    have H9:=hid h9
    clear h9
    go_wp2
    ·
     have h1:(c:Int)<128:=by assumption
     go_ret3
     have hv:zaN l=(acc+c*128 ^ k,k+1,0):=by rw[←HA.out.2,hvg.out,if_neg (by have:=H9.out;omega),if_pos (by omega)]
     rw[hv]
     have hs:=HS.out (fun e=>absurd e H9.out)
     rw[Nat.mod_eq_of_lt (by omega)] at hs
     exact⟨ret3 (zbC hs) (by go_num) rfl,rfl⟩
    ·
     have h1:128≤(c:Int):=by assumption
     have hs:=HS.out (fun e=>absurd e H9.out)
     go_round
     case rel =>
      refine⟨k+1,acc+c % 128*128 ^ k,by omega,by omega,zbC hs,by go_num,zoL acc k c HA.out.1,?_⟩
      have:c % 128=c - 128:=by omega
      rw[←HA.out.2,hvg.out,if_neg (by have:=H9.out;omega),if_neg (by omega),this]
     case measure=>simp[intOf];omega
  ·
   go_wp2
   go_ret3
   have hv:zaN l=(0,0,3):=by
    rw[←HA.out.2,List.drop_of_length_le (by rw[←HN.out];omega)];rfl
   rw[hv]
   exact⟨rfl,rfl⟩
theorem zkl {w:World}{v:Value}{l:List UInt8}(h:zay w v l) :
  Calls Tryz.prog 185 #[v] w fun e w'=>e= .returned (.tuple #[.int .i64 (zaN l).2.1,.int .u8 (zaN l).2.2])∧w=w':=by
 go_enter Tryz.func185,Tryz.ntmps185
 go_wp2_with (go_at_call 183;refine (zch h).mono ?_;rintro e w' ⟨rfl,rfl⟩)
 go_ret2
 exact⟨rfl,rfl⟩
end
section
open Go.RowKit
theorem zeq {P:Program}{t e:TypeId}(ht:P.underlying t=some (.slice e))(hs:∀ w:World,(sizeOf e).run P w= .ok 1 w){a:Option Addr}{b o len cap:Nat}(ha:a=some ⟨b,o,none⟩)(i k:Nat)(hk:i+k<len)(w:World) :
  (Instr.indexAt t (.slice a len cap) (.int .i64 ((i:Int)+(k:Int)))).run P w= .ok (.pointer (some ⟨b,o+(i+k),none⟩)) w:=by
 have:=zag ht hs ha (i+k) hk w (cap:=cap)
 rwa [Int.natCast_add] at this
theorem zcr (l:List UInt8)(i k:Nat):(l.drop i).getD k 0=l.getD (i+k) 0:=by
 simp[List.getD,List.getElem?_drop]
theorem zis (x:Int)(h0:0≤x)(h:x<2 ^ 64):IntKind.u64.wrap x=x:=by rw[IntKind.wrap_u64];omega
theorem zer {w:World}{v:Value}{l:List UInt8}(h:zay w v l)(i:Nat)(hi:i≤l.length) :
  Calls Tryz.prog 102 #[v,.int .i64 i] w fun e w'=>e= .returned (.tuple #[.int .u64 (zaN (l.drop i)).1,.int .i64 (zaN (l.drop i)).2.1,.int .i64 (zaN (l.drop i)).2.2])∧w=w':=by
 obtain⟨hlen,a,cap,rfl,-,-,-,hcell⟩:=h.open
 obtain⟨n,HN⟩:∃ n,Hid (n=l.length):=⟨_,rfl⟩
 rw[←HN.out] at hcell hlen hi ⊢
 go_enter Tryz.func102,Tryz.ntmps102
 go_wp2
 go_loop [7] (fun v7=>∃ k:Nat,i+k≤n∧k≤10∧v7= .int .i64 k∧Hid (∀ j,j<k→128≤((l.drop i).getD j 0).toNat)) (fun v7=>n - (intOf v7).toNat)
 case atStart=>exact⟨0,by omega,by omega,rfl,fun j hj=>absurd hj (by omega)⟩
 case round =>
  obtain⟨k,hk,hk2,rfl,HA⟩:=hrel
  by_cases hlt:i+k<n
  ·
   obtain⟨b,o,ha,hc0⟩:=hcell (i+k) hlt
   have hix:=zeq zaH zcw ha i k hlt (cap:=cap)
   obtain⟨c,HC⟩:∃ c,Hid (c=(l.getD (i+k) 0).toNat):=⟨_,rfl⟩
   have hcb:c<256:=by rw[HC.out];exact (l.getD (i+k) 0).toNat_lt
   rw[←HC.out] at hc0
   have HC':Hid (((l.drop i).getD k 0).toNat=c):=hid (by rw[zcr,HC.out])
   have HAA:=hid ha
   have HL:Hid (k<(l.drop i).length):=hid (by rw[List.length_drop,←HN.out];omega)
   have HCL:=hid hcell
   clear ha HC hcell
   have hne:((i:Int)+(k:Int) == (n:Int))=false:=by simp;omega
   by_cases h10:k=10
   ·
    subst h10
    go_wp2
    go_ret3
    have hv:zaN (l.drop i)=(0,0,4):=zgi 9 (l.drop i) 0 0 (fun j hj=>HA.out j (by omega)) (by omega) (by have:=HL.out;omega) (by have:=HA.out 9 (by omega);omega)
    rw[hv]
    exact⟨rfl,rfl⟩
   ·
    have hk10:k<10:=by omega
    have h10':((k:Int) == 10)=false:=by simp;omega
    have H10:=hid h10
    clear h10
    by_cases hc128:128≤c
    ·
     go_wp2
     go_round
     case rel =>
      refine⟨k+1,by omega,by omega,by go_num,fun j hj=>?_⟩
      by_cases e:j=k
      ·
       subst e;rw[HC'.out];exact hc128
      ·
       exact HA.out j (by omega)
     case measure=>simp[intOf];omega
    ·
     by_cases h9:k=9∧1<c
     ·
      obtain⟨h9,h9c⟩:=h9
      have h9':((k:Int) == 9)=true:=by simp;omega
      have H9:=hid h9
      clear h9
      go_wp2
      go_ret3
      have hv:zaN (l.drop i)=(0,0,4):=zgi k (l.drop i) 0 0 HA.out (by have:=H9.out;omega) HL.out (by rw[HC'.out];omega)
      rw[hv]
      exact⟨rfl,rfl⟩
     ·
      have hv:zaN (l.drop i)=(0+128 ^ 0*zbD (k+1) (l.drop i),0+k+1,0):=zm4 k 0 0 (l.drop i) HA.out (by omega) HL.out (by rw[HC'.out];omega) (by rw[HC'.out];omega)
      have hP:zbD (k+1) (l.drop i)<2 ^ 64:=by
       rcases zdA (l.drop i) with ⟨x,m,e,_,_,_,h5⟩|⟨x,e,h5⟩
       ·
        rw[hv] at e;simp at e;omega
       ·
        rw[hv] at e;simp at e
      obtain⟨p,HPP⟩:∃ p,Hid (p=zbD (k+1) (l.drop i)):=⟨_,rfl⟩
      have HV:Hid (zaN (l.drop i)=(p,k+1,0)):=by rw[hv,HPP.out];simp[Hid]
      have HP:=hid hP
      clear hP hv
      have hk9:k≤9:=by omega
      have hor:k<9∨k=9∧c≤1:=by omega
      have HK9:=hid h9
      clear h9
      rcases hor with h9|⟨h9,hc1⟩
      ·
       have h9':((k:Int) == 9)=false:=by simp;omega
       go_wp2
       go_loop [8,9] (fun v8 v9=>∃ (m:Nat) (z:Int) (q:Nat),m≤k+1∧v9= .int .i64 z∧v8= .int .u64 q∧Hid (z=(m:Int) - 1∧q=zbD (k+1 - m) ((l.drop i).drop m))) (fun _ v9=>(intOf v9+1).toNat)
       case atStart=>exact⟨k+1,k,0,by omega,rfl,rfl,by omega,by simp[zbD]⟩
       case round =>
        obtain⟨m,z,q,hm,rfl,rfl,HM⟩:=hrel
        cases m with
        | zero =>
         obtain rfl:z= -1:=by have:=HM.out.1;omega
         go_wp2
         go_ret3
         rw[HV.out]
         refine⟨ret3 (zbC ?_) (by go_num) rfl,rfl⟩
         rw[HM.out.2,HPP.out]
         simp
        | succ m =>
         obtain rfl:z=(m:Int):=by have:=HM.out.1;omega
         have hcl:=HCL.out
         obtain⟨b',o',ha',hc'⟩:=hcl (i+m) (by omega)
         clear hcl
         have hix':=zeq zaH zcw ha' i m (len:=n) (by omega) (cap:=cap)
         obtain⟨d,HD⟩:∃ d,Hid (d=(l.getD (i+m) 0).toNat):=⟨_,rfl⟩
         have hdb:d<256:=by rw[HD.out];exact (l.getD (i+m) 0).toNat_lt
         rw[←HD.out] at hc'
         have HAA':=hid ha'
         clear ha'
         have hstep:zbD (k+1 - m) ((l.drop i).drop m)=128*q+d % 128:=by
          have e:k+1 - m=(k - m)+1:=by omega
          rw[e,zgB _ _ (by rw[List.length_drop];have:=HL.out;omega),HM.out.2,List.drop_drop,HD.out]
          congr 2
          ·
           congr 1;omega
          ·
           rw[zcr,zcr];simp
         have hle:128*q+d % 128<2 ^ 64:=by
          have:=zdB m (k+1) (l.drop i) (by omega)
          rw[hstep] at this
          have:=HP.out
          omega
         have hw1:IntKind.u64.wrap (128*(q:Int))=128*(q:Int):=zis _ (by omega) (by omega)
         have hw2:IntKind.u64.wrap (128*(q:Int)+(d:Int) % 128)=((128*q+d % 128:Nat):Int):=by rw[zis _ (by omega) (by omega)];omega
         have HS:=hid hstep
         clear hstep hle
         go_wp2
         go_round
         case rel=>exact⟨m,(m:Int) - 1,128*q+d % 128,by omega,rfl,by first|rfl|go_num,rfl,HS.out.symm⟩
         case measure=>simp[intOf]
      ·
       have h9':((k:Int) == 9)=true:=by simp;omega
       have H9:=hid h9
       clear h9
       go_wp2
       go_loop [8,9] (fun v8 v9=>∃ (m:Nat) (z:Int) (q:Nat),m≤k+1∧v9= .int .i64 z∧v8= .int .u64 q∧Hid (z=(m:Int) - 1∧q=zbD (k+1 - m) ((l.drop i).drop m))) (fun _ v9=>(intOf v9+1).toNat)
       case atStart=>exact⟨k+1,k,0,by omega,rfl,rfl,by omega,by simp[zbD]⟩
       case round =>
        obtain⟨m,z,q,hm,rfl,rfl,HM⟩:=hrel
        cases m with
        | zero =>
         obtain rfl:z= -1:=by have:=HM.out.1;omega
         go_wp2
         go_ret3
         rw[HV.out]
         refine⟨ret3 (zbC ?_) (by go_num) rfl,rfl⟩
         rw[HM.out.2,HPP.out]
         simp
        | succ m =>
         obtain rfl:z=(m:Int):=by have:=HM.out.1;omega
         have hcl:=HCL.out
         obtain⟨b',o',ha',hc'⟩:=hcl (i+m) (by omega)
         clear hcl
         have hix':=zeq zaH zcw ha' i m (len:=n) (by omega) (cap:=cap)
         obtain⟨d,HD⟩:∃ d,Hid (d=(l.getD (i+m) 0).toNat):=⟨_,rfl⟩
         have hdb:d<256:=by rw[HD.out];exact (l.getD (i+m) 0).toNat_lt
         rw[←HD.out] at hc'
         have HAA':=hid ha'
         clear ha'
         have hstep:zbD (k+1 - m) ((l.drop i).drop m)=128*q+d % 128:=by
          have e:k+1 - m=(k - m)+1:=by omega
          rw[e,zgB _ _ (by rw[List.length_drop];have:=HL.out;omega),HM.out.2,List.drop_drop,HD.out]
          congr 2
          ·
           congr 1;omega
          ·
           rw[zcr,zcr];simp
         have hle:128*q+d % 128<2 ^ 64:=by
          have:=zdB m (k+1) (l.drop i) (by omega)
          rw[hstep] at this
          have:=HP.out
          omega
         have hw1:IntKind.u64.wrap (128*(q:Int))=128*(q:Int):=zis _ (by omega) (by omega)
         have hw2:IntKind.u64.wrap (128*(q:Int)+(d:Int) % 128)=((128*q+d % 128:Nat):Int):=by rw[zis _ (by omega) (by omega)];omega
         have HS:=hid hstep
         clear hstep hle
         go_wp2
         go_round
         case rel=>exact⟨m,(m:Int) - 1,128*q+d % 128,by omega,rfl,by first|rfl|go_num,rfl,HS.out.symm⟩
         case measure=>simp[intOf]
  ·
   have HL:Hid ((l.drop i).length=k):=hid (by rw[List.length_drop,←HN.out];omega)
   have hki:Hid (i+k=n):=hid (by omega)
   by_cases h10:k=10
   ·
    subst h10
    go_wp2
    go_ret3
    have hv:zaN (l.drop i)=(0,0,4):=zgi 9 (l.drop i) 0 0 (fun j hj=>HA.out j (by omega)) (by omega) (by rw[HL.out];omega) (by have:=HA.out 9 (by omega);omega)
    rw[hv]
    exact⟨rfl,rfl⟩
   ·
    have h10':((k:Int) == 10)=false:=by simp;omega
    have hne:((i:Int)+(k:Int) == (n:Int))=true:=by have:=hki.out;simp;omega
    have H10:=hid h10
    clear h10
    go_wp2
    go_ret3
    have hv:zaN (l.drop i)=(0,0,3):=zjc (l.drop i) 0 0 (by rw[HL.out];exact HA.out) (by rw[HL.out];have:=H10.out;omega)
    rw[hv]
    exact⟨rfl,rfl⟩
end
section
open Go.RowKit
def zcx (n w:Int):Bool:=decide (1≤n∧n≤536870911∧(w=0∨w=1∨w=2∨w=5))
def zb7 (l:List UInt8):Nat × Nat × Nat × Nat:=
 if (zaN l).2.2≠0 then (0,0,0,(zaN l).2.2) else
 if 536870911<(zaN l).1 / 8∨zcx ((zaN l).1 / 8:Nat) ((zaN l).1 % 8:Nat)=false then (0,0,0,5) else ((zaN l).1 / 8,(zaN l).1 % 8,(zaN l).2.1,0)
theorem zeL (l:List UInt8):(∃ x n,zaN l=(x,n,0)∧zb7 l=(x / 8,x % 8,n,0)∧0<n∧n≤10∧n≤l.length∧x≤4294967295∧zcx (x / 8:Nat) (x % 8:Nat)=true) ∨
  (∃ x n,zaN l=(x,n,0)∧zb7 l=(0,0,0,5)∧x<2 ^ 64∧n≤10∧(4294967295<x∨zcx (x / 8:Nat) (x % 8:Nat)=false))∨(∃ c,zaN l=(0,0,c)∧zb7 l=(0,0,0,c)∧(c=3∨c=4)):=by
 rcases zdA l with ⟨x,n,e,h1,h2,h3,h4⟩|⟨c,e,h⟩
 ·
  by_cases hx:536870911<x / 8∨zcx (x / 8:Nat) (x % 8:Nat)=false
  ·
   refine .inr (.inl ⟨x,n,e,?_,h4,h2,?_⟩)
   ·
    simp only[zb7,e]
    rw[if_neg (by simp),if_pos hx]
   ·
    rcases hx with hx|hx
    ·
     exact .inl (by omega)
    ·
     exact .inr hx
  ·
   refine .inl ⟨x,n,e,?_,h1,h2,h3,by omega,by
    cases h:zcx (x / 8:Nat) (x % 8:Nat) with
    | true=>rfl
    | false=>exact absurd (.inr h) hx⟩
   simp only[zb7,e]
   rw[if_neg (by simp),if_neg hx]
 ·
  refine .inr (.inr ⟨c,e,?_,h⟩)
  simp only[zb7,e]
  rw[if_pos (by omega)]
theorem zjd (n x:Int)(hn:-9223372036854775808≤n∧n≤9223372036854775807)(w:World) :
  Calls Tryz.prog 184 #[.agg #[.int .i64 n,.int .i64 x]] w fun e w'=>e= .returned (.bool (zcx n x))∧Below w.heap.size w w':=by
 by_cases h1:1≤n
 ·
  by_cases h2:n≤536870911
  ·
   by_cases h3:0≤x
   ·
    by_cases h4:x<8
    ·
     have H:Hid (zcx n x=decide (x=0∨x=1∨x=2∨x=5)):=by simp[Hid,zcx,h1,h2]
     rcases (show x=0∨x=1∨x=2∨x=3∨x=4∨x=5∨x=6∨x=7 by omega) with rfl|rfl|rfl|rfl|rfl|rfl|rfl|rfl
     all_goals
      go_enter Tryz.func184,Tryz.ntmps184
      go_wp2
      go_ret
      exact⟨zcG (by rw[H.out];rfl),(Below.refl _ _).alloc (Nat.le_refl _) _⟩
    ·
     have H:Hid (zcx n x=false):=by simp[Hid,zcx];omega
     go_enter Tryz.func184,Tryz.ntmps184
     go_wp2
     go_ret
     exact⟨zcG (by rw[H.out];rfl),(Below.refl _ _).alloc (Nat.le_refl _) _⟩
   ·
    have H:Hid (zcx n x=false):=by simp[Hid,zcx];omega
    go_enter Tryz.func184,Tryz.ntmps184
    go_wp2
    go_ret
    exact⟨zcG (by rw[H.out];rfl),(Below.refl _ _).alloc (Nat.le_refl _) _⟩
  ·
   have H:Hid (zcx n x=false):=by simp[Hid,zcx];omega
   go_enter Tryz.func184,Tryz.ntmps184
   go_wp2
   go_ret
   exact⟨zcG (by rw[H.out];rfl),(Below.refl _ _).alloc (Nat.le_refl _) _⟩
 ·
  have H:Hid (zcx n x=false):=by simp[Hid,zcx];omega
  go_enter Tryz.func184,Tryz.ntmps184
  go_wp2
  go_ret
  exact⟨zcG (by rw[H.out];rfl),(Below.refl _ _).alloc (Nat.le_refl _) _⟩
theorem zgC (n x:Int)(w:World) :
  Calls Tryz.prog 136 #[.int .i64 n,.int .i64 x] w fun e w'=>e= .returned (.bool (zcx n x))∧w=w':=by
 by_cases h1:1≤n
 ·
  by_cases h2:n≤536870911
  ·
   have H:Hid (zcx n x=decide (x=0∨x=1∨x=2∨x=5)):=by simp[Hid,zcx,h1,h2]
   by_cases h:x=0∨x=1∨x=2∨x=5
   ·
    rcases h with rfl|rfl|rfl|rfl
    all_goals
     go_enter Tryz.func136,Tryz.ntmps136
     go_wp2
     go_ret
     exact⟨zcG (by rw[H.out];rfl),rfl⟩
   ·
    have e0:(x == 0)=false:=by simp;omega
    have e1:(x == 1)=false:=by simp;omega
    have e2:(x == 2)=false:=by simp;omega
    have e5:(x == 5)=false:=by simp;omega
    have HH:=hid h
    clear h
    go_enter Tryz.func136,Tryz.ntmps136
    go_wp2
    go_ret
    exact⟨zcG (by rw[H.out];simp[HH.out]),rfl⟩
  ·
   have H:Hid (zcx n x=false):=by simp[Hid,zcx];omega
   go_enter Tryz.func136,Tryz.ntmps136
   go_wp2
   go_ret
   exact⟨zcG (by rw[H.out];rfl),rfl⟩
 ·
  have H:Hid (zcx n x=false):=by simp[Hid,zcx];omega
  go_enter Tryz.func136,Tryz.ntmps136
  go_wp2
  go_ret
  exact⟨zcG (by rw[H.out];rfl),rfl⟩
theorem zbs {w:World}{v:Value}{l:List UInt8}(h:zay w v l)(i:Nat)(hi:i≤l.length) :
  Calls Tryz.prog 101 #[v,.int .i64 i] w fun e w'=>e= .returned (.tuple #[.int .i64 (zb7 (l.drop i)).1,.int .i64 (zb7 (l.drop i)).2.1,.int .i64 (zb7 (l.drop i)).2.2.1,.int .i64 (zb7 (l.drop i)).2.2.2])∧w=w':=by
 rcases zeL (l.drop i) with ⟨x,n,e,et,h1,h2,h3,h4,h5⟩|⟨x,n,e,et,h1,h2,h3⟩|⟨c,e,et,h1⟩
 ·
  have E:=hid e
  have ET:=hid et
  have H5:=hid h5
  clear e et h5 h3
  go_enter Tryz.func101,Tryz.ntmps101
  go_wp2_with fail
  refine (zer h i hi).mono ?_
  rintro e w' ⟨rfl,rfl⟩
  rw[E.out]
  go_wp2_with fail
  refine (zgC _ _ _).mono ?_
  rintro e w' ⟨rfl,rfl⟩
  rw[show (x:Int) / 8=((x / 8:Nat):Int) from by omega,show (x:Int) % 8=((x % 8:Nat):Int) from by omega,H5.out]
  go_wp2
  refine bodyPost_ret (v:=.tuple #[.int .i64 (x / 8:Nat),.int .i64 (x % 8:Nat),.int .i64 n,.int .i64 0]) ?_ rfl ?_
  ·
   simp[results,Tryz.results101,go_sem]
  ·
   rw[ET.out]
   exact⟨rfl,rfl⟩
 ·
  have E:=hid e
  have ET:=hid et
  clear e et
  go_enter Tryz.func101,Tryz.ntmps101
  go_wp2_with fail
  refine (zer h i hi).mono ?_
  rintro e w' ⟨rfl,rfl⟩
  rw[E.out]
  by_cases hx:4294967295<x
  ·
   clear h3
   go_wp2
   refine bodyPost_ret (v:=.tuple #[.int .i64 0,.int .i64 0,.int .i64 0,.int .i64 5]) ?_ rfl ?_
   ·
    simp[results,Tryz.results101,go_sem]
   ·
    rw[ET.out]
    exact⟨rfl,rfl⟩
  ·
   have H5:Hid (zcx (x / 8:Nat) (x % 8:Nat)=false):=hid (h3.resolve_left hx)
   clear h3
   go_wp2_with fail
   refine (zgC _ _ _).mono ?_
   rintro e w' ⟨rfl,rfl⟩
   rw[show (x:Int) / 8=((x / 8:Nat):Int) from by omega,show (x:Int) % 8=((x % 8:Nat):Int) from by omega,H5.out]
   go_wp2
   refine bodyPost_ret (v:=.tuple #[.int .i64 0,.int .i64 0,.int .i64 0,.int .i64 5]) ?_ rfl ?_
   ·
    simp[results,Tryz.results101,go_sem]
   ·
    rw[ET.out]
    exact⟨rfl,rfl⟩
 ·
  have E:=hid e
  have ET:=hid et
  have hc:((c:Int) == 0)=false:=by simp;omega
  clear e et h1
  go_enter Tryz.func101,Tryz.ntmps101
  go_wp2_with fail
  refine (zer h i hi).mono ?_
  rintro e w' ⟨rfl,rfl⟩
  rw[E.out]
  go_wp2
  refine bodyPost_ret (v:=.tuple #[.int .i64 0,.int .i64 0,.int .i64 0,.int .i64 c]) ?_ rfl ?_
  ·
   simp[results,Tryz.results101,go_sem]
  ·
   rw[ET.out]
   exact⟨rfl,rfl⟩
theorem and7 (x:Nat)(h:x<2 ^ 64):bits .and .u64 (x:Int) 7=((x % 8:Nat):Int):=by
 have:=bits_and_u64_nat x 7 (by omega) (by omega)
 rw[show ((7:Nat):Int)=(7:Int) from rfl] at this
 rw[this]
 congr 1
 exact Nat.and_two_pow_sub_one_eq_mod x 3
theorem zgj {w:World}{v:Value}{l:List UInt8}(h:zay w v l) :
  Calls Tryz.prog 165 #[v] w fun e w'=>e= .returned (.tuple #[.agg #[.int .i64 (zb7 l).1,.int .i64 (zb7 l).2.1],.int .i64 (zb7 l).2.2.1,.int .u8 (zb7 l).2.2.2])∧Below w.heap.size w w':=by
 rcases zeL l with ⟨x,n,e,et,h1,h2,h3,h4,h5⟩|⟨x,n,e,et,h1,h2,h3⟩|⟨c,e,et,h1⟩
 ·
  have E:=hid e
  have ET:=hid et
  have H5:=hid h5
  have h7:=and7 x (by omega)
  clear e et h5 h3
  go_enter Tryz.func165,Tryz.ntmps165
  go_wp2_with fail
  refine (zch (h.below ((Below.refl _ _).alloc (Nat.le_refl _) _))).mono ?_
  rintro e w' ⟨rfl,rfl⟩
  rw[E.out]
  go_wp2_with fail
  refine (zjd _ _ (by omega) _).mono ?_
  rintro e w1 ⟨rfl,hb⟩
  rw[show (x:Int) / 8=((x / 8:Nat):Int) from by omega,show (x:Int) % 8=((x % 8:Nat):Int) from by omega,H5.out]
  have c0:=zaa hb ⟨w.heap.size,0,none⟩ (.int .i64 0) (by simp[go_sem])
  have c1:=zaa hb ⟨w.heap.size,1,none⟩ (.int .i64 0) (by simp[go_sem])
  obtain⟨hc,hf⟩:=zlT hb
  go_wp2
  refine bodyPost_ret (v:=.tuple #[.agg #[.int .i64 (x / 8:Nat),.int .i64 (x % 8:Nat)],.int .i64 n,.int .u8 0]) ?_ rfl ?_
  ·
   simp[results,Tryz.results165,go_sem,c0,c1]
  ·
   rw[ET.out]
   refine⟨rfl,?_⟩
   exact ((((Below.refl _ _).alloc (Nat.le_refl _) _).alloc (by simp) _).trans (hb.mono (by simp;omega))).setCell (by simp) _ |>.setCell (by simp) _
 ·
  have E:=hid e
  have ET:=hid et
  by_cases hx:4294967295<x
  ·
   clear e et h3
   go_enter Tryz.func165,Tryz.ntmps165
   go_wp2_with fail
   refine (zch (h.below ((Below.refl _ _).alloc (Nat.le_refl _) _))).mono ?_
   rintro e w' ⟨rfl,rfl⟩
   rw[E.out]
   go_wp2
   refine bodyPost_ret (v:=.tuple #[.agg #[.int .i64 0,.int .i64 0],.int .i64 0,.int .u8 5]) ?_ rfl ?_
   ·
    simp[results,Tryz.results165,go_sem]
   ·
    rw[ET.out]
    exact⟨rfl,by repeat (first|exact Below.refl _ _|exact (Below.refl _ _).alloc (Nat.le_refl _) _|refine Below.setCell ?_ (by simp) _)⟩
  ·
   have H5:Hid (zcx (x / 8:Nat) (x % 8:Nat)=false):=hid (h3.resolve_left hx)
   have h7:=and7 x (by omega)
   clear e et h3
   go_enter Tryz.func165,Tryz.ntmps165
   go_wp2_with fail
   refine (zch (h.below ((Below.refl _ _).alloc (Nat.le_refl _) _))).mono ?_
   rintro e w' ⟨rfl,rfl⟩
   rw[E.out]
   go_wp2_with fail
   refine (zjd _ _ (by omega) _).mono ?_
   rintro e w1 ⟨rfl,hb⟩
   rw[show (x:Int) / 8=((x / 8:Nat):Int) from by omega,show (x:Int) % 8=((x % 8:Nat):Int) from by omega,H5.out]
   have c0:=zaa hb ⟨w.heap.size,0,none⟩ (.int .i64 0) (by simp[go_sem])
   have c1:=zaa hb ⟨w.heap.size,1,none⟩ (.int .i64 0) (by simp[go_sem])
   obtain⟨hc,hf⟩:=zlT hb
   go_wp2
   refine bodyPost_ret (v:=.tuple #[.agg #[.int .i64 0,.int .i64 0],.int .i64 0,.int .u8 5]) ?_ rfl ?_
   ·
    simp[results,Tryz.results165,go_sem,c0,c1]
   ·
    rw[ET.out]
    exact⟨rfl,((((Below.refl _ _).alloc (Nat.le_refl _) _).alloc (by simp) _).trans (hb.mono (by simp;omega))).setCell (by simp) _ |>.setCell (by simp) _⟩
 ·
  have E:=hid e
  have ET:=hid et
  have hc:((c:Int) == 0)=false:=by simp;omega
  clear e et h1
  go_enter Tryz.func165,Tryz.ntmps165
  go_wp2_with fail
  refine (zch (h.below ((Below.refl _ _).alloc (Nat.le_refl _) _))).mono ?_
  rintro e w' ⟨rfl,rfl⟩
  rw[E.out]
  go_wp2
  refine bodyPost_ret (v:=.tuple #[.agg #[.int .i64 0,.int .i64 0],.int .i64 0,.int .u8 c]) ?_ rfl ?_
  ·
   simp[results,Tryz.results165,go_sem]
  ·
   rw[ET.out]
   exact⟨rfl,by repeat (first|exact Below.refl _ _|exact (Below.refl _ _).alloc (Nat.le_refl _) _|refine Below.setCell ?_ (by simp) _)⟩
end
end Go.Proofs.YtdpnmdkbdibkpaaGreatDoor
