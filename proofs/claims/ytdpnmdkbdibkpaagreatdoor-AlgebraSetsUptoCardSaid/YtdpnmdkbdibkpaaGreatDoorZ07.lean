/- Parts of a proof: texts of the author, merged. No condition of their own. -/
import Derived.Test.YtdpnmdkbdibkpaaGreatDoorZ01
import Derived.Test.YtdpnmdkbdibkpaaGreatDoorZ02
import Derived.Test.YtdpnmdkbdibkpaaGreatDoorZ06
import Derived.Maps.AppendAt
import Derived.RangeFuncFrom
import Derived.Deep.RegionWith
import Derived.Deep.RegionHeld3
import Init
namespace Go.Proofs.YtdpnmdkbdibkpaaGreatDoor
set_option maxRecDepth 100000
set_option maxHeartbeats 16000000
section
open Go.RowKit
def Blk (w:World)(b:Nat)(cs:List Value)(T:TypeId):Prop:=w.heap[b]?=some (.cells cs.toArray T (0,0))
theorem Blk.cell {w:World}{b:Nat}{cs:List Value}{T:TypeId}(h:Blk w b cs T)(j:Nat)(u:Value)(hu:cs[j]?=some u):w.cell? ⟨b,j,none⟩=some u:=by
 rw[cell_of_row _ _ _ _ T (0,0) h];simpa using hu
theorem Blk.free {w:World}{b:Nat}{cs:List Value}{T:TypeId}(h:Blk w b cs T)(j:Nat):w.frozen? ⟨b,j,none⟩=false:=by
 unfold Blk at h
 simp[World.frozen?,h]
theorem Blk.lt {w:World}{b:Nat}{cs:List Value}{T:TypeId}(h:Blk w b cs T):b<w.heap.size:=by
 unfold Blk at h
 rw[Array.getElem?_eq_some_iff] at h
 exact h.1
theorem Blk.below {w w':World}{b:Nat}{cs:List Value}{T:TypeId}(h:Blk w b cs T)(hb:Below w.heap.size w w'):Blk w' b cs T:=(hb.block b h.lt).trans h
theorem Blk.alloc {w:World}{b:Nat}{cs:List Value}{T:TypeId}(h:Blk w b cs T)(o:Obj):Blk (w.alloc o) b cs T:=(Below.heap_alloc w o b h.lt).trans h
theorem Blk.new (w:World)(cs:List Value)(T:TypeId):Blk (w.alloc (.cells cs.toArray T)) w.heap.size cs T:=heap_alloc_new w _
theorem Blk.set_other {w:World}{b:Nat}{cs:List Value}{T:TypeId}(h:Blk w b cs T)(a:Addr)(v:Value)(hne:b≠a.block):Blk (w.setCell a v) b cs T:=(Below.heap_setCell w a v b hne).trans h
theorem Blk.set {w:World}{b:Nat}{cs:List Value}{T:TypeId}(h:Blk w b cs T)(j:Nat)(v:Value):Blk (w.setCell ⟨b,j,none⟩ v) b (cs.set j v) T:=by
 unfold Blk at *
 obtain⟨hlt,hk⟩:=Array.getElem?_eq_some_iff.1 h
 show (w.heap.modify b _)[b]?=_
 rw[Array.getElem?_eq_getElem (by rw[Array.size_modify];exact hlt),Array.getElem_modify_self,hk]
 simp
theorem zaG (w:World)(a:Addr)(v:Value)(q j:Nat)(hne:q≠a.block):(w.setCell a v).cell? ⟨q,j,none⟩=w.cell? ⟨q,j,none⟩:=World.cell?_of_block (Below.heap_setCell w a v q hne)
theorem Blk.new' (w:World)(cs:List Value)(T:TypeId)(n:Nat)(h:n=w.heap.size):Blk (w.alloc (.cells cs.toArray T)) n cs T:=by subst h;exact Blk.new w cs T
theorem zbk {w w':World}{base size n:Nat}{e:TypeId}{v:Value}{xs:List Value}(h:w.ownsRow base e size v n xs)
  (hk:∀ b cur,base≤b→w.heap[b]?=some (.cells cur e (0,0))→w'.heap[b]?=w.heap[b]?):w'.ownsRow base e size v n xs:=by
 refine⟨h.1,?_⟩
 rcases h.2 with h2|⟨g,cap,cur,hv,hb,hg,hnc,hcm,hcs,ht⟩
 ·
  exact .inl h2
 ·
  exact .inr ⟨g,cap,cur,hv,hb,(hk g cur hb hg).trans hg,hnc,hcm,hcs,ht⟩
theorem Blk.put {W:World}{b r:Nat}{cs:List Value}{T:TypeId}(h:Blk W b cs T)(o:Obj)(hne:b≠r):Blk (W.putObj r o) b cs T:=
 (World.putObj_heap_other hne).trans h
theorem zjs {H:Nat}(W:World)(l:Nat)(o:Obj)(h:H≤l):Below H W (W.putObj l o):=
 ⟨rfl,rfl,rfl,by simp[World.putObj],fun b hb=>World.putObj_heap_other (by omega)⟩
theorem zkt {w W:World}{H B0 B1 BD:Nat}{u0 u1:Value}{T0 T1:TypeId}(r0:Blk W B0 [u0] T0)(r1:Blk W B1 [u1] T1)(hD:W.heap[BD]?=some (.deferred (some [])))
  (h01:B0≠B1) (h0:H≤B0) (h1:H≤B1) (hHD:H≤BD) (hB:Below H w W) (x y:Value) :
  ((W.setCell ⟨B0,0,none⟩ x).setCell ⟨B1,0,none⟩ y).heap[BD]?=some (.deferred (some [])) ∧
  (((W.setCell ⟨B0,0,none⟩ x).setCell ⟨B1,0,none⟩ y).putObj BD (.deferred none)).cell? ⟨B0,0,none⟩=some x ∧
  (((W.setCell ⟨B0,0,none⟩ x).setCell ⟨B1,0,none⟩ y).putObj BD (.deferred none)).cell? ⟨B1,0,none⟩=some y ∧
  Below H w (((W.setCell ⟨B0,0,none⟩ x).setCell ⟨B1,0,none⟩ y).putObj BD (.deferred none)):=by
 have n0:BD≠B0:=by rintro rfl;unfold Blk at r0;rw[r0] at hD;cases hD
 have n1:BD≠B1:=by rintro rfl;unfold Blk at r1;rw[r1] at hD;cases hD
 have d1:(W.setCell ⟨B0,0,none⟩ x).heap[BD]?=some (.deferred (some [])):=(Below.heap_setCell W _ _ _ n0).trans hD
 have d2:((W.setCell ⟨B0,0,none⟩ x).setCell ⟨B1,0,none⟩ y).heap[BD]?=some (.deferred (some [])):=(Below.heap_setCell _ _ _ _ n1).trans d1
 have s0:Blk (W.setCell ⟨B0,0,none⟩ x) B0 [x] T0:=r0.set 0 x
 have s1:Blk (W.setCell ⟨B0,0,none⟩ x) B1 [u1] T1:=r1.set_other _ _ (Ne.symm h01)
 have t0:Blk ((W.setCell ⟨B0,0,none⟩ x).setCell ⟨B1,0,none⟩ y) B0 [x] T0:=s0.set_other _ _ h01
 have t1:Blk ((W.setCell ⟨B0,0,none⟩ x).setCell ⟨B1,0,none⟩ y) B1 [y] T1:=s1.set 0 y
 refine⟨d2,(t0.put _ (Ne.symm n0)).cell 0 _ rfl,(t1.put _ (Ne.symm n1)).cell 0 _ rfl,?_⟩
 have b2:Below H w ((W.setCell ⟨B0,0,none⟩ x).setCell ⟨B1,0,none⟩ y):=(hB.setCell h0 _).setCell h1 _
 exact b2.trans (zjs _ _ _ hHD)
theorem zjt {w W:World}{H B0 B1 BD:Nat}{u0 u1:Value}{T0 T1:TypeId}(r0:Blk W B0 [u0] T0)(r1:Blk W B1 [u1] T1)(hD:W.heap[BD]?=some (.deferred (some [])))
  (hHD:H≤BD) (hB:Below H w W) :
  (W.putObj BD (.deferred none)).cell? ⟨B0,0,none⟩=some u0∧(W.putObj BD (.deferred none)).cell? ⟨B1,0,none⟩=some u1∧Below H w (W.putObj BD (.deferred none)):=by
 have n0:BD≠B0:=by rintro rfl;unfold Blk at r0;rw[r0] at hD;cases hD
 have n1:BD≠B1:=by rintro rfl;unfold Blk at r1;rw[r1] at hD;cases hD
 exact⟨(r0.put _ (Ne.symm n0)).cell 0 _ rfl,(r1.put _ (Ne.symm n1)).cell 0 _ rfl,hB.trans (zjs _ _ _ hHD)⟩
theorem zcS {w:World}{g:Nat}{cs:List Value}{T:TypeId}(h:Blk w g cs T)(size n:Nat)(hl:cs.length=n*size)(hn:n≤140737488355328):Seg w (.slice (some ⟨g,0,none⟩) n n) size n cs:=
 ⟨hl,hn,_,_,rfl,Nat.le_refl _,by omega,by simp,fun j u hu=>⟨g,0,rfl,by rw[Nat.zero_add];exact h.cell j u hu⟩⟩
end
section
open Go.RowKit
def recL (r:Rec):List Value:=[.int .i64 r.number,.int .i64 r.wire,.int .i64 r.start,.int .i64 r.at',.int .i64 r.to]
end
section
open Go.RowKit
end
section
open Go.RowKit
end
section
open Go.RowKit
end
section
def zd4 (c:Nat):Nat × Nat:=
 if c<128 then (1,c) else if 192≤c∧c<224 then (2,c % 32) else if 224≤c∧c<240 then (3,c % 16) else if 240≤c∧c<248 then (4,c % 8) else (0,0)
def zfP (n:Nat):Nat:=if n≤1 then 0 else if n=2 then 128 else if n=3 then 2048 else 65536
def zfr:Nat→Nat→List UInt8→Option Nat
 | 0,r,_=>some r
 | _+1,_,[]=>none
 | k+1,r,c::t=>if 128≤c.toNat∧c.toNat<192 then zfr k (r*64+c.toNat % 64) t else none
def zoF (n r:Nat):Bool:=decide (r<zfP n∨1114111<r∨55296≤r∧r≤57343)
def za8 (l:List UInt8):Nat:=
 match l with
 | []=>0
 | c::t =>
  if (zd4 c.toNat).1=0∨l.length<(zd4 c.toNat).1 then 0 else
  match zfr ((zd4 c.toNat).1 - 1) (zd4 c.toNat).2 t with
  | none=>0
  | some r=>if zoF (zd4 c.toNat).1 r then 0 else (zd4 c.toNat).1
theorem zlh (c:Nat):(zd4 c).1≤4:=by
 unfold zd4
 repeat' split
 all_goals simp
theorem zgm (l:List UInt8):za8 l≤l.length∧za8 l≤4:=by
 unfold za8
 split
 ·
  exact⟨Nat.le_refl _,by omega⟩
 ·
  rename_i c t
  have:=zlh c.toNat
  split
  ·
   exact⟨Nat.zero_le _,by omega⟩
  ·
   split
   ·
    exact⟨Nat.zero_le _,by omega⟩
   ·
    split
    ·
     exact⟨Nat.zero_le _,by omega⟩
    ·
     exact⟨by omega,this⟩
def ugo:Nat→List UInt8→Nat
 | 0,_=>0
 | f+1,l=>if za8 l=0 then 0 else za8 l+ugo f (l.drop (za8 l))
def zbf (l:List UInt8):Nat:=ugo l.length l
theorem zli:∀ (f g:Nat) (l:List UInt8),l.length≤f→f≤g→ugo g l=ugo f l
 | 0,g,l,h,_=>by
  obtain rfl:l=[]:=List.eq_nil_of_length_eq_zero (by omega)
  cases g <;> simp[ugo,za8]
 | f+1,0,l,_,h=>by omega
 | f+1,g+1,l,h,hg=>by
  simp only[ugo]
  split
  ·
   rfl
  ·
   rw[zli f g _ (by rw[List.length_drop];omega) (by omega)]
theorem zgJ (l:List UInt8):zbf l=if za8 l=0 then 0 else za8 l+zbf (l.drop (za8 l)):=by
 unfold zbf
 cases h:l.length with
 | zero =>
  obtain rfl:l=[]:=List.eq_nil_of_length_eq_zero h
  simp[ugo,za8]
 | succ f =>
  simp only[ugo]
  split
  ·
   rfl
  ·
   rename_i hne
   have:=zgm l
   rw[zli (l.drop (za8 l)).length f _ (Nat.le_refl _) (by rw[List.length_drop];omega)]
def b8 (n:Nat):UInt8:=UInt8.ofNat n
def zhB (r:Nat):List UInt8:=
 if 1114111<r∨55296≤r∧r≤57343 then [] else
 if r<128 then [b8 r] else
 if r<2048 then [b8 (192+r / 64),b8 (128+r % 64)] else
 if r<65536 then [b8 (224+r / 4096),b8 (128+r / 64 % 64),b8 (128+r % 64)] else
 [b8 (240+r / 262144),b8 (128+r / 4096 % 64),b8 (128+r / 64 % 64),b8 (128+r % 64)]
def zoO (n c:Nat):Nat:=if n≤1 then c else if n=2 then c % 32 else if n=3 then c % 16 else c % 8
def zd5:Nat→List UInt8→Nat
 | r,[]=>r
 | r,c::t=>zd5 (64*r+c.toNat % 64) t
def zeD (n:Nat)(l:List UInt8):Nat:=zd5 (zoO n (l.getD 0 0).toNat) ((l.take n).drop 1)
theorem zhC (n:Nat)(c:UInt8)(h:n<256):b8 n=c↔n=c.toNat:=by
 constructor
 ·
  rintro rfl;simp[b8];omega
 ·
  intro e;apply UInt8.toNat_inj.1;simp[b8];omega
theorem zcj (c:Nat):(c<128∧zd4 c=(1,c))∨(192≤c∧c<224∧zd4 c=(2,c % 32))∨(224≤c∧c<240∧zd4 c=(3,c % 16))∨(240≤c∧c<248∧zd4 c=(4,c % 8)) ∨
  ((128≤c∧c<192∨248≤c)∧zd4 c=(0,0)):=by
 unfold zd4
 by_cases h1:c<128
 ·
  exact .inl ⟨h1,if_pos h1⟩
 ·
  rw[if_neg h1]
  by_cases h2:192≤c∧c<224
  ·
   exact .inr (.inl ⟨h2.1,h2.2,if_pos h2⟩)
  ·
   rw[if_neg h2]
   by_cases h3:224≤c∧c<240
   ·
    exact .inr (.inr (.inl ⟨h3.1,h3.2,if_pos h3⟩))
   ·
    rw[if_neg h3]
    by_cases h4:240≤c∧c<248
    ·
     exact .inr (.inr (.inr (.inl ⟨h4.1,h4.2,if_pos h4⟩)))
    ·
     exact .inr (.inr (.inr (.inr ⟨by omega,if_neg h4⟩)))
def zl2 (c:UInt8):Prop:=128≤c.toNat∧c.toNat<192
theorem unext1 (c:UInt8)(t:List UInt8):za8 (c::t)=1↔c.toNat<128:=by
 have hc:=c.toNat_lt
 rcases zcj c.toNat with ⟨h,e⟩|⟨h,h',e⟩|⟨h,h',e⟩|⟨h,h',e⟩|⟨h,e⟩
 ·
  simp only[za8,e]
  have hb:zoF 1 c.toNat=false:=by simp[zoF,zfP];omega
  simp[zfr,hb,h]
 all_goals
  have hne:¬ c.toNat<128:=by omega
  simp only[hne,iff_false]
  simp only[za8,e]
  repeat' split
  all_goals omega
theorem unext2 (c d:UInt8)(t:List UInt8):za8 (c::d::t)=2↔192≤c.toNat∧c.toNat<224∧zl2 d∧128≤c.toNat % 32*64+d.toNat % 64:=by
 have hc:=c.toNat_lt
 rcases zcj c.toNat with ⟨h,e⟩|⟨h,h',e⟩|⟨h,h',e⟩|⟨h,h',e⟩|⟨h,e⟩
 case inr.inl =>
  simp only[za8,e,zfr,zl2]
  rw[if_neg (by simp)]
  by_cases hd:128≤d.toNat∧d.toNat<192
  ·
   simp only[hd,and_self,if_true,zoF,zfP]
   by_cases hr:128≤c.toNat % 32*64+d.toNat % 64
   ·
    rw[if_neg (by simp;omega)]
    simp[h,h',hr]
   ·
    rw[if_pos (by simp;omega)]
    simp[hr]
  ·
   simp[hd]
 all_goals
  have hne:¬ (192≤c.toNat∧c.toNat<224∧zl2 d∧128≤c.toNat % 32*64+d.toNat % 64):=by omega
  simp only[hne,iff_false]
  simp only[za8,e]
  repeat' split
  all_goals omega
theorem unext3 (c d f:UInt8)(t:List UInt8):za8 (c::d::f::t)=3↔224≤c.toNat∧c.toNat<240∧zl2 d∧zl2 f ∧
  2048≤(c.toNat % 16*64+d.toNat % 64)*64+f.toNat % 64∧¬ (55296≤(c.toNat % 16*64+d.toNat % 64)*64+f.toNat % 64∧(c.toNat % 16*64+d.toNat % 64)*64+f.toNat % 64≤57343):=by
 have hc:=c.toNat_lt
 rcases zcj c.toNat with ⟨h,e⟩|⟨h,h',e⟩|⟨h,h',e⟩|⟨h,h',e⟩|⟨h,e⟩
 case inr.inr.inl =>
  simp only[za8,e,zfr,zl2]
  rw[if_neg (by simp)]
  by_cases hd:128≤d.toNat∧d.toNat<192
  ·
   by_cases hf:128≤f.toNat∧f.toNat<192
   ·
    simp only[hd,hf,and_self,if_true,zoF,zfP,true_and,h,h']
    by_cases hr:2048≤(c.toNat % 16*64+d.toNat % 64)*64+f.toNat % 64∧¬ (55296≤(c.toNat % 16*64+d.toNat % 64)*64+f.toNat % 64∧(c.toNat % 16*64+d.toNat % 64)*64+f.toNat % 64≤57343)
    ·
     rw[if_neg (by simp;omega)]
     simp only[hr,not_false_eq_true,and_self]
    ·
     rw[if_pos (by simp;omega)]
     simp only[hr,iff_false];omega
   ·
    simp[hd,hf]
  ·
   simp[hd]
 all_goals
  simp only[za8,e]
  repeat' split
  all_goals omega
theorem ubad4 (r:Nat):zoF 4 r=decide (r<65536∨1114111<r):=by
 have e:zfP 4=65536:=rfl
 unfold zoF
 rw[e]
 congr 1
 apply propext
 omega
theorem unext4 (c d f g:UInt8)(t:List UInt8):za8 (c::d::f::g::t)=4↔240≤c.toNat∧c.toNat<248∧zl2 d∧zl2 f∧zl2 g ∧
  65536≤((c.toNat % 8*64+d.toNat % 64)*64+f.toNat % 64)*64+g.toNat % 64∧((c.toNat % 8*64+d.toNat % 64)*64+f.toNat % 64)*64+g.toNat % 64≤1114111:=by
 have hc:=c.toNat_lt
 rcases zcj c.toNat with ⟨h,e⟩|⟨h,h',e⟩|⟨h,h',e⟩|⟨h,h',e⟩|⟨h,e⟩
 case inr.inr.inr.inl =>
  simp only[za8,e,zfr,zl2]
  rw[if_neg (by simp)]
  by_cases hd:128≤d.toNat∧d.toNat<192
  ·
   by_cases hf:128≤f.toNat∧f.toNat<192
   ·
    by_cases hg:128≤g.toNat∧g.toNat<192
    ·
     simp only[hd,hf,hg,and_self,if_true,ubad4,true_and,h,h']
     by_cases hr:65536≤((c.toNat % 8*64+d.toNat % 64)*64+f.toNat % 64)*64+g.toNat % 64∧((c.toNat % 8*64+d.toNat % 64)*64+f.toNat % 64)*64+g.toNat % 64≤1114111
     ·
      rw[if_neg (by simp;omega)]
      simp only[hr,and_self]
     ·
      rw[if_pos (by simp;omega)]
      simp only[hr,iff_false];omega
    ·
     simp[hd,hf,hg]
   ·
    simp[hd,hf]
  ·
   simp[hd]
 all_goals
  simp only[za8,e]
  repeat' split
  all_goals omega
theorem zgn (r:Nat):(zhB r).length=if 1114111<r∨55296≤r∧r≤57343 then 0 else if r<128 then 1 else if r<2048 then 2 else if r<65536 then 3 else 4:=by
 unfold zhB
 repeat' split
 all_goals simp
theorem ze1 (l:List UInt8)(n:Nat)(h1:1≤n)(h4:n≤4)(hl:n≤l.length):zhB (zeD n l)=l.take n↔za8 l=n:=by
 rcases (show n=1∨n=2∨n=3∨n=4 by omega) with rfl|rfl|rfl|rfl
 ·
  match l,hl with
  | c::t,_ =>
   have hc:=c.toNat_lt
   rw[unext1]
   have e:zeD 1 (c::t)=c.toNat:=by simp[zeD,zd5,zoO]
   rw[e]
   by_cases h:c.toNat<128
   ·
    simp only[h,iff_true,zhB]
    rw[if_neg (by omega),if_pos trivial]
    have:b8 c.toNat=c:=(zhC _ _ (by omega)).2 rfl
    simp[this]
   ·
    simp only[h,iff_false]
    intro e
    have:=congrArg List.length e
    rw[zgn,if_neg (by omega),if_neg (by omega),if_pos (by omega)] at this
    simp at this
 ·
  match l,hl with
  | c::d::t,_ =>
   have hc:=c.toNat_lt
   have hd:=d.toNat_lt
   rw[unext2]
   have e:zeD 2 (c::d::t)=c.toNat % 32*64+d.toNat % 64:=by simp[zeD,zd5,zoO];omega
   rw[e]
   generalize hr:c.toNat % 32*64+d.toNat % 64=r
   unfold zl2
   by_cases h:128≤r
   ·
    unfold zhB
    rw[if_neg (by omega),if_neg (by omega),if_pos (by omega)]
    simp only[List.take_succ_cons,List.take_zero,List.cons.injEq,and_true]
    rw[zhC _ _ (by omega),zhC _ _ (by omega)]
    omega
   ·
    have hne:¬ (192≤c.toNat∧c.toNat<224∧(128≤d.toNat∧d.toNat<192)∧128≤r):=by omega
    simp only[hne,iff_false]
    intro e
    have:=congrArg List.length e
    rw[zgn,if_neg (by omega),if_pos (by omega)] at this
    simp at this
 ·
  match l,hl with
  | c::d::f::t,_ =>
   have hc:=c.toNat_lt
   have hd:=d.toNat_lt
   have hf:=f.toNat_lt
   rw[unext3]
   have e:zeD 3 (c::d::f::t)=(c.toNat % 16*64+d.toNat % 64)*64+f.toNat % 64:=by simp[zeD,zd5,zoO];omega
   rw[e]
   generalize hr:(c.toNat % 16*64+d.toNat % 64)*64+f.toNat % 64=r
   unfold zl2
   by_cases h:2048≤r∧¬ (55296≤r∧r≤57343)
   ·
    unfold zhB
    rw[if_neg (by omega),if_neg (by omega),if_neg (by omega),if_pos (by omega)]
    simp only[List.take_succ_cons,List.take_zero,List.cons.injEq,and_true]
    rw[zhC _ _ (by omega),zhC _ _ (by omega),zhC _ _ (by omega)]
    omega
   ·
    constructor
    ·
     intro e
     have:=congrArg List.length e
     rw[zgn] at this
     simp only[List.length_take,List.length_cons] at this
     repeat' split at this
     all_goals omega
    ·
     omega
 ·
  match l,hl with
  | c::d::f::g::t,_ =>
   have hc:=c.toNat_lt
   have hd:=d.toNat_lt
   have hf:=f.toNat_lt
   have hg:=g.toNat_lt
   rw[unext4]
   have e:zeD 4 (c::d::f::g::t)=((c.toNat % 8*64+d.toNat % 64)*64+f.toNat % 64)*64+g.toNat % 64:=by simp[zeD,zd5,zoO];omega
   rw[e]
   generalize hr:((c.toNat % 8*64+d.toNat % 64)*64+f.toNat % 64)*64+g.toNat % 64=r
   unfold zl2
   by_cases h:65536≤r∧r≤1114111
   ·
    unfold zhB
    rw[if_neg (by omega),if_neg (by omega),if_neg (by omega),if_neg (by omega)]
    simp only[List.take_succ_cons,List.take_zero,List.cons.injEq,and_true]
    rw[zhC _ _ (by omega),zhC _ _ (by omega),zhC _ _ (by omega),zhC _ _ (by omega)]
    omega
   ·
    constructor
    ·
     intro e
     have:=congrArg List.length e
     rw[zgn] at this
     simp only[List.length_take,List.length_cons] at this
     repeat' split at this
     all_goals omega
    ·
     omega
end
section
open Go.RowKit
/-! A right schema -/
theorem ziy {n:Nat}{nm nu:Bool}{f:Fld}(h:zax n nm nu f=0):zaU f.kind=true∧(f.kind=17→0≤f.of∧f.of<n)∧(f.kind≠17→f.of=0)∧(f.packed=true→f.rep=true∧zaw f.kind=true):=by
 obtain⟨h1,rfl,h2,rfl⟩:=zbL h
 unfold zax at h
 rw[if_neg (by simp[h1]),if_neg (by decide),if_neg (by simp[h2]),if_neg (by decide)] at h
 by_cases h3:zaU f.kind=false
 ·
  rw[if_pos h3] at h;omega
 rw[if_neg h3] at h
 by_cases h4:f.packed=true∧(f.rep=false∨zaw f.kind=false)
 ·
  rw[if_pos h4] at h;omega
 rw[if_neg h4] at h
 by_cases h5:f.kind=17∧(f.of<0∨(n:Int)≤f.of)∨f.kind≠17∧f.of≠0
 ·
  rw[if_pos h5] at h;omega
 refine⟨by simpa using h3,fun e=>?_,fun e=>?_,fun e=>?_⟩
 ·
  constructor
  ·
   exact Int.not_lt.1 fun hh=>h5 (.inl ⟨e,.inl hh⟩)
  ·
   exact Int.not_le.1 fun hh=>h5 (.inl ⟨e,.inr hh⟩)
 ·
  exact Decidable.byContradiction fun hh=>h5 (.inr ⟨e,hh⟩)
 ·
  constructor
  ·
   cases hr:f.rep with
   | true=>rfl
   | false=>exact absurd ⟨e,.inl hr⟩ h4
  ·
   cases hr:zaw f.kind with
   | true=>rfl
   | false=>exact absurd ⟨e,.inr hr⟩ h4
theorem zby {n:Nat}:∀ (fs bf:List Fld) (k:Nat),zao n bf fs k=none→∀ f∈fs,∃ nm nu,zax n nm nu f=0
 | [],_,_,_=>by simp
 | g::r,bf,k,h=>by
  rw[zao] at h
  by_cases h0:zax n (za7 bf g.name) (zbx bf g.number) g=0
  ·
   rw[if_pos h0] at h
   intro f hf
   rcases List.mem_cons.1 hf with rfl|hf
   ·
    exact⟨_,_,h0⟩
   ·
    exact zby r _ _ h f hf
  ·
   rw[if_neg h0] at h;cases h
theorem zck {n:Nat}:∀ (s bm:List Mes) (i:Nat),(zbB n bm s i).2.2=0→∀ m∈s,zao n [] m.fields 0=none∧m.fields.length≤200∧zan m.name=true
 | [],_,_,_=>by simp
 | g::r,bm,i,h=>by
  rw[zbB] at h
  by_cases h1:zan g.name=false
  ·
   rw[if_pos h1] at h;simp at h
  rw[if_neg h1] at h
  by_cases h2:zcQ bm g.name=true
  ·
   rw[if_pos h2] at h;simp at h
  rw[if_neg h2] at h
  by_cases h3:200<g.fields.length
  ·
   rw[if_pos h3] at h;simp at h
  rw[if_neg h3] at h
  cases h4:zao n [] g.fields 0 with
  | some p =>
   rw[h4] at h
   obtain⟨k,x⟩:=p
   have:x≠0:=by
    rintro rfl
    exact fieldsFault_nz _ _ _ h4
   simp at h
   exact absurd h this
  | none =>
   rw[h4] at h
   intro m hm
   rcases List.mem_cons.1 hm with rfl|hm
   ·
    exact⟨h4,by omega,by simpa using h1⟩
   ·
    exact zck r _ _ h m hm
where
 fieldsFault_nz {n:Nat}:∀ (fs bf:List Fld) (k:Nat) {j:Nat},zao n bf fs k≠some (j,0)
 | [],_,_,_=>by simp[zao]
 | g::r,bf,k,j=>by
  rw[zao]
  by_cases h0:zax n (za7 bf g.name) (zbx bf g.number) g=0
  ·
   rw[if_pos h0];exact fieldsFault_nz r _ _
  ·
   rw[if_neg h0]
   intro h
   injection h with h
   exact h0 (congrArg Prod.snd h)
theorem zeb {s:List Mes}(h:zaC s=true)(m:Nat)(hm:m<s.length)(f:Fld)(hf:f∈(s.getD m .zero).fields) :
  zaU f.kind=true∧(f.kind=17→0≤f.of∧f.of<s.length)∧(f.kind≠17→f.of=0)∧(f.packed=true→f.rep=true∧zaw f.kind=true):=by
 have h0:(zbj s).2.2=0:=of_decide_eq_true h
 unfold zbj at h0
 by_cases h1:s.length=0∨100<s.length
 ·
  rw[if_pos h1] at h0;simp at h0
 rw[if_neg h1] at h0
 have hmem:s.getD m .zero∈s:=by
  have:s.getD m .zero=s[m]:=by simp[List.getD,hm]
  rw[this];exact List.getElem_mem hm
 obtain⟨h2,-,-⟩:=zck s [] 0 h0 _ hmem
 obtain⟨nm,nu,h3⟩:=zby _ _ _ h2 f hf
 exact ziy h3
theorem zl3 {s:List Mes}(h:zaC s=true):0<s.length∧s.length≤100:=by
 have h0:(zbj s).2.2=0:=of_decide_eq_true h
 unfold zbj at h0
 by_cases h1:s.length=0∨100<s.length
 ·
  rw[if_pos h1] at h0;simp at h0
 omega
/-! A record,looked at -/
theorem ze2 (fs:List Fld)(n:Int):zak fs n= -1∨∃ k:Nat,k<fs.length∧zak fs n=k∧(fs.getD k .zero).number=n:=by
 have gen:∀ (l:List Fld) (i:Nat),zah (fun f=>decide (f.number=n)) l i= -1∨∃ k:Nat,k<l.length∧zah (fun f=>decide (f.number=n)) l i=((i+k:Nat):Int)∧(l.getD k .zero).number=n:=by
  intro l
  induction l with
  | nil=>intro i;exact .inl rfl
  | cons f r ih =>
   intro i
   rw[zah]
   by_cases h:f.number=n
   ·
    exact .inr ⟨0,by simp,by simp[h],by simpa using h⟩
   ·
    rw[if_neg (by simpa using h)]
    rcases ih (i+1) with h1|⟨k,h1,h2,h3⟩
    ·
     exact .inl h1
    ·
     exact .inr ⟨k+1,by simpa using h1,by rw[h2];congr 1;omega,by simpa using h3⟩
 rcases gen fs 0 with h|⟨k,h1,h2,h3⟩
 ·
  exact .inl h
 ·
  exact .inr ⟨k,h1,by unfold zak;rw[h2,Nat.zero_add],h3⟩
end
end Go.Proofs.YtdpnmdkbdibkpaaGreatDoor
