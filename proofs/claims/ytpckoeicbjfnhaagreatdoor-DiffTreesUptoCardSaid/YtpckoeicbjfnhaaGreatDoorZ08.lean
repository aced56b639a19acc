/- Parts of a proof: texts of the author, merged. No condition of their own. -/
import Derived.Test.YtpckoeicbjfnhaaGreatDoorZ07
import Init
namespace Go.Proofs.YtpckoeicbjfnhaaGreatDoor
set_option maxRecDepth 100000
set_option maxHeartbeats 16000000
section
open Go.RowKit
def zbt (wire:Nat)(l:List UInt8):Nat × Nat:=
 if wire=0 then ((zaG l).2.1,(zaG l).2.2) else
 if l.length<(if wire=1 then 8 else 4) then (0,3) else (if wire=1 then 8 else 4,0)
theorem zmz {w:World}{v:Value}{l:List UInt8}(h:zaj w v l)(wire:Nat) :
  Calls Tryz.prog 240 #[.int .i64 wire,v] w fun e w'=>e= .returned (.tuple #[.int .i64 (zbt wire l).1,.int .u8 (zbt wire l).2])∧w=w':=by
 obtain⟨hlen,a,cap,rfl,-,-,-,hcell⟩:=h.open
 obtain⟨n,HN⟩:∃ n,Hid (n=l.length):=⟨_,rfl⟩
 obtain⟨x,HX⟩:∃ x,Hid (x=zbt wire l):=⟨_,rfl⟩
 rw[←HX.out]
 unfold zbt at HX
 rw[←HN.out] at HX hlen hcell h ⊢
 clear hcell
 by_cases h0:wire=0
 ·
  subst h0
  obtain rfl:x=((zaG l).2.1,(zaG l).2.2):=by rw[HX.out,if_pos rfl]
  go_enter Tryz.func240,Tryz.ntmps240
  go_wp2_with (go_at_call 221;refine (zhh h).mono ?_;rintro e w' ⟨rfl,rfl⟩)
  go_ret2
  exact⟨rfl,rfl⟩
 ·
  by_cases h1:wire=1
  ·
   subst h1
   by_cases hs:n<8
   ·
    obtain rfl:x=(0,3):=by rw[HX.out,if_neg (by decide),if_pos (by simpa using hs)]
    go_enter Tryz.func240,Tryz.ntmps240
    go_wp2
    go_ret2
    exact⟨rfl,rfl⟩
   ·
    obtain rfl:x=(8,0):=by rw[HX.out,if_neg (by decide),if_neg (by simpa using hs)];rfl
    go_enter Tryz.func240,Tryz.ntmps240
    go_wp2
    go_ret2
    exact⟨rfl,rfl⟩
  ·
   have e0:((wire:Int) == 0)=false:=by simp;omega
   have e1:((wire:Int) == 1)=false:=by simp;omega
   have HI1:=hid h1
   have HI0:=hid h0
   clear h0 h1
   by_cases hs:n<4
   ·
    obtain rfl:x=(0,3):=by rw[HX.out,if_neg HI0.out,if_pos (by rw[if_neg HI1.out];exact hs)]
    go_enter Tryz.func240,Tryz.ntmps240
    go_wp2
    go_ret2
    exact⟨rfl,rfl⟩
   ·
    obtain rfl:x=(4,0):=by rw[HX.out,if_neg HI0.out,if_neg (by rw[if_neg HI1.out];exact hs),if_neg HI1.out]
    go_enter Tryz.func240,Tryz.ntmps240
    go_wp2
    go_ret2
    exact⟨rfl,rfl⟩
end
section
open Go.RowKit
theorem zbu (wire:Nat)(l:List UInt8):(∃ n,zbt wire l=(n,0)∧0<n∧n≤10∧n≤l.length)∨(∃ c,zbt wire l=(0,c)∧(c=3∨c=4)):=by
 unfold zbt
 by_cases h0:wire=0
 ·
  rw[if_pos h0]
  rcases zb3 l with ⟨x,n,e,h1,h2,h3,-⟩|⟨c,e,hc⟩
  ·
   exact .inl ⟨n,by rw[e],h1,h2,h3⟩
  ·
   exact .inr ⟨c,by rw[e],hc⟩
 ·
  rw[if_neg h0]
  by_cases h1:l.length<(if wire=1 then 8 else 4)
  ·
   rw[if_pos h1];exact .inr ⟨3,rfl,.inl rfl⟩
  ·
   rw[if_neg h1]
   refine .inl ⟨_,rfl,?_,?_,by omega⟩ <;> split <;> omega
def zgc (wire:Nat):Nat→List UInt8→Nat × Nat
 | 0,_=>(0,0)
 | k+1,l=>if l=[] then (0,0) else
   if (zbt wire l).2≠0 then (0,(zbt wire l).2) else
   if (zgc wire k (l.drop (zbt wire l).1)).2≠0 then (0,(zgc wire k (l.drop (zbt wire l).1)).2) else
   ((zgc wire k (l.drop (zbt wire l).1)).1+1,0)
def zaK (wire:Nat)(l:List UInt8):Nat × Nat:=zgc wire l.length l
theorem ziN (wire:Nat):∀ (k m:Nat) (l:List UInt8),l.length≤k→l.length≤m→zgc wire k l=zgc wire m l
 | 0,0,_,_,_=>rfl
 | 0,m+1,l,h,_=>by
  have:l=[]:=List.length_eq_zero_iff.1 (by omega)
  subst this
  simp[zgc]
 | k+1,0,l,_,h=>by
  have:l=[]:=List.length_eq_zero_iff.1 (by omega)
  subst this
  simp[zgc]
 | k+1,m+1,l,h1,h2=>by
  by_cases hl:l=[]
  ·
   simp[zgc,hl]
  ·
   rcases zbu wire l with ⟨n,e,h3,-,h4⟩|⟨c,e,hc⟩
   ·
    have:=ziN wire k m (l.drop n) (by simp;omega) (by simp;omega)
    simp only[zgc,e,this]
   ·
    have hc':c≠0:=by omega
    simp only[zgc,e,if_neg hl,if_pos hc']
theorem zgB (wire:Nat)(l:List UInt8)(hl:l≠[])(c:Nat)(hc:c≠0)(e:(zbt wire l).2=c):zaK wire l=(0,c):=by
 obtain⟨k,hk⟩:∃ k,l.length=k+1:=⟨l.length - 1,by have:=List.length_pos_iff.2 hl;omega⟩
 unfold zaK
 rw[hk]
 simp only[zgc,if_neg hl,e,if_pos hc]
theorem zfG (wire:Nat)(l:List UInt8)(hl:l≠[])(n:Nat)(e:zbt wire l=(n,0)) :
  zaK wire l=if (zaK wire (l.drop n)).2≠0 then (0,(zaK wire (l.drop n)).2) else ((zaK wire (l.drop n)).1+1,0):=by
 obtain⟨k,hk⟩:∃ k,l.length=k+1:=⟨l.length - 1,by have:=List.length_pos_iff.2 hl;omega⟩
 have hn:0<n:=by
  rcases zbu wire l with ⟨n',e',h3,-,h4⟩|⟨c,e',hc⟩
  ·
   rw[e] at e';cases e';exact h3
  ·
   rw[e] at e';cases e';omega
 have hf:=ziN wire k (l.drop n).length (l.drop n) (by simp;omega) (Nat.le_refl _)
 unfold zaK
 rw[hk]
 simp only[zgc,if_neg hl,e,hf]
 simp
/-! the values themselves -/
def zbH (wire:Nat):Nat→List UInt8→List (List UInt8)
 | 0,_=>[]
 | k+1,l=>if l=[] then [] else if (zbt wire l).2≠0 then [] else l.take (zbt wire l).1::zbH wire k (l.drop (zbt wire l).1)
def zbU (wire:Nat)(l:List UInt8):List (List UInt8):=zbH wire l.length l
theorem ze7 (wire:Nat):∀ (k m:Nat) (l:List UInt8),l.length≤k→l.length≤m→zbH wire k l=zbH wire m l
 | 0,0,_,_,_=>rfl
 | 0,m+1,l,h,_=>by
  have:l=[]:=List.length_eq_zero_iff.1 (by omega)
  subst this
  simp[zbH]
 | k+1,0,l,_,h=>by
  have:l=[]:=List.length_eq_zero_iff.1 (by omega)
  subst this
  simp[zbH]
 | k+1,m+1,l,h1,h2=>by
  by_cases hl:l=[]
  ·
   simp[zbH,hl]
  ·
   rcases zbu wire l with ⟨n,e,h3,-,h4⟩|⟨c,e,hc⟩
   ·
    have:=ze7 wire k m (l.drop n) (by simp;omega) (by simp;omega)
    simp only[zbH,e,this]
   ·
    have hc':c≠0:=by omega
    simp only[zbH,e,if_neg hl,if_pos hc']
theorem zlF (wire:Nat):zbU wire []=[]:=rfl
theorem zhs (wire:Nat)(l:List UInt8)(c:Nat)(hc:c≠0)(e:(zbt wire l).2=c):zbU wire l=[]:=by
 unfold zbU
 cases hk:l.length with
 | zero=>rfl
 | succ k =>
  have hl:l≠[]:=by rintro rfl;simp at hk
  simp only[zbH,if_neg hl,e,if_pos hc]
theorem zdo (wire:Nat)(l:List UInt8)(hl:l≠[])(n:Nat)(e:zbt wire l=(n,0)):zbU wire l=l.take n::zbU wire (l.drop n):=by
 obtain⟨k,hk⟩:∃ k,l.length=k+1:=⟨l.length - 1,by have:=List.length_pos_iff.2 hl;omega⟩
 have hn:0<n:=by
  rcases zbu wire l with ⟨n',e',h3,-,h4⟩|⟨c,e',hc⟩
  ·
   rw[e] at e';cases e';exact h3
  ·
   rw[e] at e';cases e';omega
 have hf:=ze7 wire k (l.drop n).length (l.drop n) (by simp;omega) (Nat.le_refl _)
 unfold zbU
 rw[hk]
 simp only[zbH,if_neg hl,e,hf]
 simp
theorem zfi (wire:Nat):∀ (m:Nat) (l:List UInt8),l.length≤m→(zbU wire l).length≤l.length
 | 0,l,h=>by
  obtain rfl:l=[]:=List.length_eq_zero_iff.1 (by omega)
  exact Nat.le_refl _
 | m+1,l,h=>by
  by_cases hl:l=[]
  ·
   subst hl;exact Nat.le_refl _
  rcases zbu wire l with ⟨n,e,h3,-,h4⟩|⟨c,e,hc⟩
  ·
   have ih:=zfi wire m (l.drop n) (by simp;omega)
   rw[zdo wire l hl n e]
   simp at ih ⊢;omega
  ·
   rw[zhs wire l c (by omega) (by rw[e])];simp
theorem zes (wire:Nat):∀ (m:Nat) (l:List UInt8),l.length≤m→(zaK wire l).1=if (zaK wire l).2=0 then (zbU wire l).length else 0
 | 0,l,h=>by
  obtain rfl:l=[]:=List.length_eq_zero_iff.1 (by omega)
  rfl
 | m+1,l,h=>by
  by_cases hl:l=[]
  ·
   subst hl;rfl
  rcases zbu wire l with ⟨n,e,h3,-,h4⟩|⟨c,e,hc⟩
  ·
   have ih:=zes wire m (l.drop n) (by simp;omega)
   rw[zfG wire l hl n e,zdo wire l hl n e]
   by_cases h0:(zaK wire (l.drop n)).2=0
   ·
    simp only[h0,ne_eq,not_true_eq_false,if_false,if_true,List.length_cons] at ih ⊢
    rw[ih]
   ·
    simp[h0]
  ·
   rw[zgB wire l hl c (by omega) (by rw[e]),if_neg (show (0,c).2≠0 by show c≠0;omega)]
end
section
def zeh (c:Nat):Nat × Nat:=
 if c<128 then (1,c) else if 192≤c∧c<224 then (2,c % 32) else if 224≤c∧c<240 then (3,c % 16) else if 240≤c∧c<248 then (4,c % 8) else (0,0)
def zgC (n:Nat):Nat:=if n≤1 then 0 else if n=2 then 128 else if n=3 then 2048 else 65536
def zgd:Nat→Nat→List UInt8→Option Nat
 | 0,r,_=>some r
 | _+1,_,[]=>none
 | k+1,r,c::t=>if 128≤c.toNat∧c.toNat<192 then zgd k (r*64+c.toNat % 64) t else none
def zqz (n r:Nat):Bool:=decide (r<zgC n∨1114111<r∨55296≤r∧r≤57343)
def za3 (l:List UInt8):Nat:=
 match l with
 | []=>0
 | c::t =>
  if (zeh c.toNat).1=0∨l.length<(zeh c.toNat).1 then 0 else
  match zgd ((zeh c.toNat).1 - 1) (zeh c.toNat).2 t with
  | none=>0
  | some r=>if zqz (zeh c.toNat).1 r then 0 else (zeh c.toNat).1
theorem zmA (c:Nat):(zeh c).1≤4:=by
 unfold zeh
 repeat' split
 all_goals simp
theorem zg7 (l:List UInt8):za3 l≤l.length∧za3 l≤4:=by
 unfold za3
 split
 ·
  exact⟨Nat.le_refl _,by omega⟩
 ·
  rename_i c t
  have:=zmA c.toNat
  split
  ·
   exact⟨Nat.zero_le _,by omega⟩
  ·
   split
   ·
    exact⟨Nat.zero_le _,by omega⟩
   ·
    split
    ·
     exact⟨Nat.zero_le _,by omega⟩
    ·
     exact⟨by omega,this⟩
def ugo:Nat→List UInt8→Nat
 | 0,_=>0
 | f+1,l=>if za3 l=0 then 0 else za3 l+ugo f (l.drop (za3 l))
def zaS (l:List UInt8):Nat:=ugo l.length l
theorem zmB:∀ (f g:Nat) (l:List UInt8),l.length≤f→f≤g→ugo g l=ugo f l
 | 0,g,l,h,_=>by
  obtain rfl:l=[]:=List.eq_nil_of_length_eq_zero (by omega)
  cases g <;> simp[ugo,za3]
 | f+1,0,l,_,h=>by omega
 | f+1,g+1,l,h,hg=>by
  simp only[ugo]
  split
  ·
   rfl
  ·
   rw[zmB f g _ (by rw[List.length_drop];omega) (by omega)]
theorem zht (l:List UInt8):zaS l=if za3 l=0 then 0 else za3 l+zaS (l.drop (za3 l)):=by
 unfold zaS
 cases h:l.length with
 | zero =>
  obtain rfl:l=[]:=List.eq_nil_of_length_eq_zero h
  simp[ugo,za3]
 | succ f =>
  simp only[ugo]
  split
  ·
   rfl
  ·
   rename_i hne
   have:=zg7 l
   rw[zmB (l.drop (za3 l)).length f _ (Nat.le_refl _) (by rw[List.length_drop];omega)]
def b8 (n:Nat):UInt8:=UInt8.ofNat n
def zij (r:Nat):List UInt8:=
 if 1114111<r∨55296≤r∧r≤57343 then [] else
 if r<128 then [b8 r] else
 if r<2048 then [b8 (192+r / 64),b8 (128+r % 64)] else
 if r<65536 then [b8 (224+r / 4096),b8 (128+r / 64 % 64),b8 (128+r % 64)] else
 [b8 (240+r / 262144),b8 (128+r / 4096 % 64),b8 (128+r / 64 % 64),b8 (128+r % 64)]
def zqD (n c:Nat):Nat:=if n≤1 then c else if n=2 then c % 32 else if n=3 then c % 16 else c % 8
def zei:Nat→List UInt8→Nat
 | r,[]=>r
 | r,c::t=>zei (64*r+c.toNat % 64) t
def ze4 (n:Nat)(l:List UInt8):Nat:=zei (zqD n (l.getD 0 0).toNat) ((l.take n).drop 1)
theorem zil (n:Nat)(c:UInt8)(h:n<256):b8 n=c↔n=c.toNat:=by
 constructor
 ·
  rintro rfl;simp[b8];omega
 ·
  intro e;apply UInt8.toNat_inj.1;simp[b8];omega
theorem zcy (c:Nat):(c<128∧zeh c=(1,c))∨(192≤c∧c<224∧zeh c=(2,c % 32))∨(224≤c∧c<240∧zeh c=(3,c % 16))∨(240≤c∧c<248∧zeh c=(4,c % 8)) ∨
  ((128≤c∧c<192∨248≤c)∧zeh c=(0,0)):=by
 unfold zeh
 by_cases h1:c<128
 ·
  exact .inl ⟨h1,if_pos h1⟩
 ·
  rw[if_neg h1]
  by_cases h2:192≤c∧c<224
  ·
   exact .inr (.inl ⟨h2.1,h2.2,if_pos h2⟩)
  ·
   rw[if_neg h2]
   by_cases h3:224≤c∧c<240
   ·
    exact .inr (.inr (.inl ⟨h3.1,h3.2,if_pos h3⟩))
   ·
    rw[if_neg h3]
    by_cases h4:240≤c∧c<248
    ·
     exact .inr (.inr (.inr (.inl ⟨h4.1,h4.2,if_pos h4⟩)))
    ·
     exact .inr (.inr (.inr (.inr ⟨by omega,if_neg h4⟩)))
def znr (c:UInt8):Prop:=128≤c.toNat∧c.toNat<192
theorem unext1 (c:UInt8)(t:List UInt8):za3 (c::t)=1↔c.toNat<128:=by
 have hc:=c.toNat_lt
 rcases zcy c.toNat with ⟨h,e⟩|⟨h,h',e⟩|⟨h,h',e⟩|⟨h,h',e⟩|⟨h,e⟩
 ·
  simp only[za3,e]
  have hb:zqz 1 c.toNat=false:=by simp[zqz,zgC];omega
  simp[zgd,hb,h]
 all_goals
  have hne:¬ c.toNat<128:=by omega
  simp only[hne,iff_false]
  simp only[za3,e]
  repeat' split
  all_goals omega
theorem unext2 (c d:UInt8)(t:List UInt8):za3 (c::d::t)=2↔192≤c.toNat∧c.toNat<224∧znr d∧128≤c.toNat % 32*64+d.toNat % 64:=by
 have hc:=c.toNat_lt
 rcases zcy c.toNat with ⟨h,e⟩|⟨h,h',e⟩|⟨h,h',e⟩|⟨h,h',e⟩|⟨h,e⟩
 case inr.inl =>
  simp only[za3,e,zgd,znr]
  rw[if_neg (by simp)]
  by_cases hd:128≤d.toNat∧d.toNat<192
  ·
   simp only[hd,and_self,if_true,zqz,zgC]
   by_cases hr:128≤c.toNat % 32*64+d.toNat % 64
   ·
    rw[if_neg (by simp;omega)]
    simp[h,h',hr]
   ·
    rw[if_pos (by simp;omega)]
    simp[hr]
  ·
   simp[hd]
 all_goals
  have hne:¬ (192≤c.toNat∧c.toNat<224∧znr d∧128≤c.toNat % 32*64+d.toNat % 64):=by omega
  simp only[hne,iff_false]
  simp only[za3,e]
  repeat' split
  all_goals omega
theorem unext3 (c d f:UInt8)(t:List UInt8):za3 (c::d::f::t)=3↔224≤c.toNat∧c.toNat<240∧znr d∧znr f ∧
  2048≤(c.toNat % 16*64+d.toNat % 64)*64+f.toNat % 64∧¬ (55296≤(c.toNat % 16*64+d.toNat % 64)*64+f.toNat % 64∧(c.toNat % 16*64+d.toNat % 64)*64+f.toNat % 64≤57343):=by
 have hc:=c.toNat_lt
 rcases zcy c.toNat with ⟨h,e⟩|⟨h,h',e⟩|⟨h,h',e⟩|⟨h,h',e⟩|⟨h,e⟩
 case inr.inr.inl =>
  simp only[za3,e,zgd,znr]
  rw[if_neg (by simp)]
  by_cases hd:128≤d.toNat∧d.toNat<192
  ·
   by_cases hf:128≤f.toNat∧f.toNat<192
   ·
    simp only[hd,hf,and_self,if_true,zqz,zgC,true_and,h,h']
    by_cases hr:2048≤(c.toNat % 16*64+d.toNat % 64)*64+f.toNat % 64∧¬ (55296≤(c.toNat % 16*64+d.toNat % 64)*64+f.toNat % 64∧(c.toNat % 16*64+d.toNat % 64)*64+f.toNat % 64≤57343)
    ·
     rw[if_neg (by simp;omega)]
     simp only[hr,not_false_eq_true,and_self]
    ·
     rw[if_pos (by simp;omega)]
     simp only[hr,iff_false];omega
   ·
    simp[hd,hf]
  ·
   simp[hd]
 all_goals
  simp only[za3,e]
  repeat' split
  all_goals omega
theorem ubad4 (r:Nat):zqz 4 r=decide (r<65536∨1114111<r):=by
 have e:zgC 4=65536:=rfl
 unfold zqz
 rw[e]
 congr 1
 apply propext
 omega
theorem unext4 (c d f g:UInt8)(t:List UInt8):za3 (c::d::f::g::t)=4↔240≤c.toNat∧c.toNat<248∧znr d∧znr f∧znr g ∧
  65536≤((c.toNat % 8*64+d.toNat % 64)*64+f.toNat % 64)*64+g.toNat % 64∧((c.toNat % 8*64+d.toNat % 64)*64+f.toNat % 64)*64+g.toNat % 64≤1114111:=by
 have hc:=c.toNat_lt
 rcases zcy c.toNat with ⟨h,e⟩|⟨h,h',e⟩|⟨h,h',e⟩|⟨h,h',e⟩|⟨h,e⟩
 case inr.inr.inr.inl =>
  simp only[za3,e,zgd,znr]
  rw[if_neg (by simp)]
  by_cases hd:128≤d.toNat∧d.toNat<192
  ·
   by_cases hf:128≤f.toNat∧f.toNat<192
   ·
    by_cases hg:128≤g.toNat∧g.toNat<192
    ·
     simp only[hd,hf,hg,and_self,if_true,ubad4,true_and,h,h']
     by_cases hr:65536≤((c.toNat % 8*64+d.toNat % 64)*64+f.toNat % 64)*64+g.toNat % 64∧((c.toNat % 8*64+d.toNat % 64)*64+f.toNat % 64)*64+g.toNat % 64≤1114111
     ·
      rw[if_neg (by simp;omega)]
      simp only[hr,and_self]
     ·
      rw[if_pos (by simp;omega)]
      simp only[hr,iff_false];omega
    ·
     simp[hd,hf,hg]
   ·
    simp[hd,hf]
  ·
   simp[hd]
 all_goals
  simp only[za3,e]
  repeat' split
  all_goals omega
theorem zg8 (r:Nat):(zij r).length=if 1114111<r∨55296≤r∧r≤57343 then 0 else if r<128 then 1 else if r<2048 then 2 else if r<65536 then 3 else 4:=by
 unfold zij
 repeat' split
 all_goals simp
theorem zfH (l:List UInt8)(n:Nat)(h1:1≤n)(h4:n≤4)(hl:n≤l.length):zij (ze4 n l)=l.take n↔za3 l=n:=by
 rcases (show n=1∨n=2∨n=3∨n=4 by omega) with rfl|rfl|rfl|rfl
 ·
  match l,hl with
  | c::t,_ =>
   have hc:=c.toNat_lt
   rw[unext1]
   have e:ze4 1 (c::t)=c.toNat:=by simp[ze4,zei,zqD]
   rw[e]
   by_cases h:c.toNat<128
   ·
    simp only[h,iff_true,zij]
    rw[if_neg (by omega),if_pos trivial]
    have:b8 c.toNat=c:=(zil _ _ (by omega)).2 rfl
    simp[this]
   ·
    simp only[h,iff_false]
    intro e
    have:=congrArg List.length e
    rw[zg8,if_neg (by omega),if_neg (by omega),if_pos (by omega)] at this
    simp at this
 ·
  match l,hl with
  | c::d::t,_ =>
   have hc:=c.toNat_lt
   have hd:=d.toNat_lt
   rw[unext2]
   have e:ze4 2 (c::d::t)=c.toNat % 32*64+d.toNat % 64:=by simp[ze4,zei,zqD];omega
   rw[e]
   generalize hr:c.toNat % 32*64+d.toNat % 64=r
   unfold znr
   by_cases h:128≤r
   ·
    unfold zij
    rw[if_neg (by omega),if_neg (by omega),if_pos (by omega)]
    simp only[List.take_succ_cons,List.take_zero,List.cons.injEq,and_true]
    rw[zil _ _ (by omega),zil _ _ (by omega)]
    omega
   ·
    have hne:¬ (192≤c.toNat∧c.toNat<224∧(128≤d.toNat∧d.toNat<192)∧128≤r):=by omega
    simp only[hne,iff_false]
    intro e
    have:=congrArg List.length e
    rw[zg8,if_neg (by omega),if_pos (by omega)] at this
    simp at this
 ·
  match l,hl with
  | c::d::f::t,_ =>
   have hc:=c.toNat_lt
   have hd:=d.toNat_lt
   have hf:=f.toNat_lt
   rw[unext3]
   have e:ze4 3 (c::d::f::t)=(c.toNat % 16*64+d.toNat % 64)*64+f.toNat % 64:=by simp[ze4,zei,zqD];omega
   rw[e]
   generalize hr:(c.toNat % 16*64+d.toNat % 64)*64+f.toNat % 64=r
   unfold znr
   by_cases h:2048≤r∧¬ (55296≤r∧r≤57343)
   ·
    unfold zij
    rw[if_neg (by omega),if_neg (by omega),if_neg (by omega),if_pos (by omega)]
    simp only[List.take_succ_cons,List.take_zero,List.cons.injEq,and_true]
    rw[zil _ _ (by omega),zil _ _ (by omega),zil _ _ (by omega)]
    omega
   ·
    constructor
    ·
     intro e
     have:=congrArg List.length e
     rw[zg8] at this
     simp only[List.length_take,List.length_cons] at this
     repeat' split at this
     all_goals omega
    ·
     omega
 ·
  match l,hl with
  | c::d::f::g::t,_ =>
   have hc:=c.toNat_lt
   have hd:=d.toNat_lt
   have hf:=f.toNat_lt
   have hg:=g.toNat_lt
   rw[unext4]
   have e:ze4 4 (c::d::f::g::t)=((c.toNat % 8*64+d.toNat % 64)*64+f.toNat % 64)*64+g.toNat % 64:=by simp[ze4,zei,zqD];omega
   rw[e]
   generalize hr:((c.toNat % 8*64+d.toNat % 64)*64+f.toNat % 64)*64+g.toNat % 64=r
   unfold znr
   by_cases h:65536≤r∧r≤1114111
   ·
    unfold zij
    rw[if_neg (by omega),if_neg (by omega),if_neg (by omega),if_neg (by omega)]
    simp only[List.take_succ_cons,List.take_zero,List.cons.injEq,and_true]
    rw[zil _ _ (by omega),zil _ _ (by omega),zil _ _ (by omega),zil _ _ (by omega)]
    omega
   ·
    constructor
    ·
     intro e
     have:=congrArg List.length e
     rw[zg8] at this
     simp only[List.length_take,List.length_cons] at this
     repeat' split at this
     all_goals omega
    ·
     omega
end
section
open Go.RowKit
/-! A right schema -/
theorem zjD {n:Nat}{nm nu:Bool}{f:Fld}(h:zau n nm nu f=0):zaA f.kind=true∧(f.kind=17→0≤f.of∧f.of<n)∧(f.kind≠17→f.of=0)∧(f.packed=true→f.rep=true∧zai f.kind=true):=by
 obtain⟨h1,rfl,h2,rfl⟩:=zci h
 unfold zau at h
 rw[if_neg (by simp[h1]),if_neg (by decide),if_neg (by simp[h2]),if_neg (by decide)] at h
 by_cases h3:zaA f.kind=false
 ·
  rw[if_pos h3] at h;omega
 rw[if_neg h3] at h
 by_cases h4:f.packed=true∧(f.rep=false∨zai f.kind=false)
 ·
  rw[if_pos h4] at h;omega
 rw[if_neg h4] at h
 by_cases h5:f.kind=17∧(f.of<0∨(n:Int)≤f.of)∨f.kind≠17∧f.of≠0
 ·
  rw[if_pos h5] at h;omega
 refine⟨by simpa using h3,fun e=>?_,fun e=>?_,fun e=>?_⟩
 ·
  constructor
  ·
   exact Int.not_lt.1 fun hh=>h5 (.inl ⟨e,.inl hh⟩)
  ·
   exact Int.not_le.1 fun hh=>h5 (.inl ⟨e,.inr hh⟩)
 ·
  exact Decidable.byContradiction fun hh=>h5 (.inr ⟨e,hh⟩)
 ·
  constructor
  ·
   cases hr:f.rep with
   | true=>rfl
   | false=>exact absurd ⟨e,.inl hr⟩ h4
  ·
   cases hr:zai f.kind with
   | true=>rfl
   | false=>exact absurd ⟨e,.inr hr⟩ h4
theorem zbZ {n:Nat}:∀ (fs bf:List Fld) (k:Nat),zaq n bf fs k=none→∀ f∈fs,∃ nm nu,zau n nm nu f=0
 | [],_,_,_=>by simp
 | g::r,bf,k,h=>by
  rw[zaq] at h
  by_cases h0:zau n (zaY bf g.name) (za8 bf g.number) g=0
  ·
   rw[if_pos h0] at h
   intro f hf
   rcases List.mem_cons.1 hf with rfl|hf
   ·
    exact⟨_,_,h0⟩
   ·
    exact zbZ r _ _ h f hf
  ·
   rw[if_neg h0] at h;cases h
theorem zb7 {n:Nat}:∀ (s bm:List Mes) (i:Nat),(zbz n bm s i).2.2=0→∀ m∈s,zaq n [] m.fields 0=none∧m.fields.length≤200∧zav m.name=true
 | [],_,_,_=>by simp
 | g::r,bm,i,h=>by
  rw[zbz] at h
  by_cases h1:zav g.name=false
  ·
   rw[if_pos h1] at h;simp at h
  rw[if_neg h1] at h
  by_cases h2:zc7 bm g.name=true
  ·
   rw[if_pos h2] at h;simp at h
  rw[if_neg h2] at h
  by_cases h3:200<g.fields.length
  ·
   rw[if_pos h3] at h;simp at h
  rw[if_neg h3] at h
  cases h4:zaq n [] g.fields 0 with
  | some p =>
   rw[h4] at h
   obtain⟨k,x⟩:=p
   have:x≠0:=by
    rintro rfl
    exact fieldsFault_nz _ _ _ h4
   simp at h
   exact absurd h this
  | none =>
   rw[h4] at h
   intro m hm
   rcases List.mem_cons.1 hm with rfl|hm
   ·
    exact⟨h4,by omega,by simpa using h1⟩
   ·
    exact zb7 r _ _ h m hm
where
 fieldsFault_nz {n:Nat}:∀ (fs bf:List Fld) (k:Nat) {j:Nat},zaq n bf fs k≠some (j,0)
 | [],_,_,_=>by simp[zaq]
 | g::r,bf,k,j=>by
  rw[zaq]
  by_cases h0:zau n (zaY bf g.name) (za8 bf g.number) g=0
  ·
   rw[if_pos h0];exact fieldsFault_nz r _ _
  ·
   rw[if_neg h0]
   intro h
   injection h with h
   exact h0 (congrArg Prod.snd h)
theorem zdp {s:List Mes}(h:zar s=true)(m:Nat)(hm:m<s.length)(f:Fld)(hf:f∈(s.getD m .zero).fields) :
  zaA f.kind=true∧(f.kind=17→0≤f.of∧f.of<s.length)∧(f.kind≠17→f.of=0)∧(f.packed=true→f.rep=true∧zai f.kind=true):=by
 have h0:(za6 s).2.2=0:=of_decide_eq_true h
 unfold za6 at h0
 by_cases h1:s.length=0∨100<s.length
 ·
  rw[if_pos h1] at h0;simp at h0
 rw[if_neg h1] at h0
 have hmem:s.getD m .zero∈s:=by
  have:s.getD m .zero=s[m]:=by simp[List.getD,hm]
  rw[this];exact List.getElem_mem hm
 obtain⟨h2,-,-⟩:=zb7 s [] 0 h0 _ hmem
 obtain⟨nm,nu,h3⟩:=zbZ _ _ _ h2 f hf
 exact zjD h3
theorem zns {s:List Mes}(h:zar s=true):0<s.length∧s.length≤100:=by
 have h0:(za6 s).2.2=0:=of_decide_eq_true h
 unfold za6 at h0
 by_cases h1:s.length=0∨100<s.length
 ·
  rw[if_pos h1] at h0;simp at h0
 omega
/-! A record,looked at -/
theorem zdW (fs:List Fld)(n:Int):zah fs n= -1∨∃ k:Nat,k<fs.length∧zah fs n=k∧(fs.getD k .zero).number=n:=by
 have gen:∀ (l:List Fld) (i:Nat),zam (fun f=>decide (f.number=n)) l i= -1∨∃ k:Nat,k<l.length∧zam (fun f=>decide (f.number=n)) l i=((i+k:Nat):Int)∧(l.getD k .zero).number=n:=by
  intro l
  induction l with
  | nil=>intro i;exact .inl rfl
  | cons f r ih =>
   intro i
   rw[zam]
   by_cases h:f.number=n
   ·
    exact .inr ⟨0,by simp,by simp[h],by simpa using h⟩
   ·
    rw[if_neg (by simpa using h)]
    rcases ih (i+1) with h1|⟨k,h1,h2,h3⟩
    ·
     exact .inl h1
    ·
     exact .inr ⟨k+1,by simpa using h1,by rw[h2];congr 1;omega,by simpa using h3⟩
 rcases gen fs 0 with h|⟨k,h1,h2,h3⟩
 ·
  exact .inl h
 ·
  exact .inr ⟨k,h1,by unfold zah;rw[h2,Nat.zero_add],h3⟩
theorem zcz (fs:List Fld)(l:List UInt8)(i:Nat) :
  (∃ c,c≠0∧zaw fs l i=(.none,0,false,c)∧c<256) ∨
  (∃ r:Rec,r.start=i∧i<r.at'∧r.at'≤r.to∧r.to≤l.length∧zaE l i=(r,0) ∧
   (zaw fs l i=(r,-1,false,0) ∨
   ∃ (k:Nat) (run:Bool),k<fs.length∧zaw fs l i=(r,(k:Int),run,0)∧(fs.getD k .zero).number=r.number ∧
    (run=true→(fs.getD k .zero).rep=true∧zai (fs.getD k .zero).kind=true∧r.wire=2)∧(run=false→zaA (fs.getD k .zero).kind=true∧zaH (fs.getD k .zero).kind=r.wire))):=by
 have hn:∀ c,zaE l i=(.none,c)→c≠0→c<256→zaw fs l i=(.none,0,false,c):=fun c h1 h2 _=>by
  unfold zaw
  rw[h1]
  simp[h2]
 rcases zb5 l i with ⟨hi,er⟩|⟨hi,c,et,hc,er⟩|⟨hi,k,x,n,et,h1,h2,h3,h4,h5,h6,hcs⟩
 ·
  exact .inl ⟨2,by decide,hn _ er (by decide) (by decide),by decide⟩
 ·
  exact .inl ⟨c,by omega,hn _ er (by omega) (by omega),by omega⟩
 ·
  rcases hcs with ⟨a,m,c,es,hc,-,-,er⟩|⟨a,m,es,-,-,-,-,er⟩|⟨a,m,es,g1,g2,g3,er⟩
  ·
   exact .inl ⟨c,by omega,hn _ er (by omega) (by omega),by omega⟩
  ·
   exact .inl ⟨3,by decide,hn _ er (by decide) (by decide),by decide⟩
  ·
   have hv:zaw fs l i=if zah fs k<0 then (⟨k,x,i,i+n+a,i+n+a+m⟩,-1,false,0) else
     if ((fs.getD (zah fs k).toNat .zero).rep&&zai (fs.getD (zah fs k).toNat .zero).kind&&decide (x=2))=true then (⟨k,x,i,i+n+a,i+n+a+m⟩,zah fs k,true,0) else
     if zaA (fs.getD (zah fs k).toNat .zero).kind=false∨zaH (fs.getD (zah fs k).toNat .zero).kind≠x then (.none,0,false,6) else (⟨k,x,i,i+n+a,i+n+a+m⟩,zah fs k,false,0):=by
    unfold zaw
    rw[er]
    rfl
   rcases zdW fs k with hf|⟨j,hj,hf,hjn⟩
   ·
    rw[hf,if_pos (by decide)] at hv
    exact .inr ⟨_,rfl,by simp;omega,by simp,by simp;omega,er,.inl hv⟩
   ·
    rw[hf,if_neg (by omega)] at hv
    simp only[Int.toNat_natCast] at hv
    by_cases hrun:((fs.getD j .zero).rep&&zai (fs.getD j .zero).kind&&decide (x=2))=true
    ·
     rw[if_pos hrun] at hv
     simp only[Bool.and_eq_true,decide_eq_true_eq] at hrun
     exact .inr ⟨_,rfl,by simp;omega,by simp,by simp;omega,er,.inr ⟨j,true,hj,hv,hjn,fun _=>⟨hrun.1.1,hrun.1.2,hrun.2⟩,fun h=>(by cases h)⟩⟩
    ·
     rw[if_neg hrun] at hv
     by_cases hbad:zaA (fs.getD j .zero).kind=false∨zaH (fs.getD j .zero).kind≠x
     ·
      rw[if_pos hbad] at hv
      exact .inl ⟨6,by decide,hv,by decide⟩
     ·
      rw[if_neg hbad] at hv
      have g4:zaA (fs.getD j .zero).kind=true:=by
       cases h:zaA (fs.getD j .zero).kind with
       | true=>rfl
       | false=>exact absurd (.inl h) hbad
      have g5:zaH (fs.getD j .zero).kind=x:=Decidable.byContradiction fun h=>hbad (.inr h)
      exact .inr ⟨_,rfl,by simp;omega,by simp,by simp;omega,er,.inr ⟨j,false,hj,hv,hjn,fun h=>(by cases h),fun _=>⟨g4,g5⟩⟩⟩
/-! The first that is not right -/
def zct (l:List UInt8)(i j:Nat):List UInt8:=(l.drop i).take (j - i)
def zjE (rec:Nat→List UInt8→Nat × Nat)(deep:Bool)(fs:List Fld)(l:List UInt8)(v:Rec × Int × Bool × Nat):Nat × Nat:=
 if v.2.1<0 then (0,0) else
 let f:=fs.getD v.2.1.toNat .zero
 if v.2.2.1=true then (v.1.start,(zaK (zaH f.kind) (zct l v.1.at' v.1.to)).2) else
 if f.kind=15 then (if zaS (zct l v.1.at' v.1.to)=(zct l v.1.at' v.1.to).length then (0,0) else (v.1.start,7)) else
 if f.kind=17 then (if deep=true then (v.1.start,8) else (v.1.at'+(rec f.of.toNat (zct l v.1.at' v.1.to)).1,(rec f.of.toNat (zct l v.1.at' v.1.to)).2)) else
 (0,0)
def zfI (rec:Nat→List UInt8→Nat × Nat)(deep:Bool)(fs:List Fld)(l:List UInt8):Nat→Nat→Nat × Nat
 | 0,_=>(0,0)
 | k+1,i=>if l.length≤i then (0,0) else
  if (zaw fs l i).2.2.2≠0 then (i,(zaw fs l i).2.2.2) else
  if (zjE rec deep fs l (zaw fs l i)).2≠0 then zjE rec deep fs l (zaw fs l i) else zfI rec deep fs l k (zaw fs l i).1.to
def zfJ (s:List Mes):Nat→Nat→List UInt8→Nat × Nat
 | 0,m,l=>zfI (fun _ _=>(0,0)) true (s.getD m .zero).fields l l.length 0
 | d+1,m,l=>zfI (zfJ s d) false (s.getD m .zero).fields l l.length 0
def zlx (s:List Mes):Nat→Nat→List UInt8→Nat × Nat
 | 0=>fun _ _=>(0,0)
 | d+1=>zfJ s d
def zge (s:List Mes)(d m:Nat)(l:List UInt8)(i:Nat):Nat × Nat:=zfI (zlx s d) (decide (d=0)) (s.getD m .zero).fields l l.length i
theorem zfK (s:List Mes)(d m:Nat)(l:List UInt8):zfJ s d m l=zge s d m l 0:=by cases d <;> rfl
theorem zeR (fs:List Fld)(l:List UInt8)(i:Nat)(h:(zaw fs l i).2.2.2=0):i<(zaw fs l i).1.to∧(zaw fs l i).1.to≤l.length:=by
 rcases zcz fs l i with ⟨c,hc,e,-⟩|⟨r,h1,h2,h3,h4,-,e|⟨k,run,-,e,-⟩⟩
 ·
  rw[e] at h;exact absurd h hc
 ·
  rw[e];exact⟨by show i<r.to;omega,h4⟩
 ·
  rw[e];exact⟨by show i<r.to;omega,h4⟩
theorem ziO (rec:Nat→List UInt8→Nat × Nat)(deep:Bool)(fs:List Fld)(l:List UInt8):∀ (k m i:Nat),l.length≤k+i→l.length≤m+i→zfI rec deep fs l k i=zfI rec deep fs l m i
 | 0,0,_,_,_=>rfl
 | 0,m+1,i,h,_=>by rw[zfI,zfI,if_pos (by omega)]
 | k+1,0,i,_,h=>by rw[zfI,zfI,if_pos (by omega)]
 | k+1,m+1,i,h1,h2=>by
  rw[zfI,zfI]
  by_cases hi:l.length≤i
  ·
   rw[if_pos hi,if_pos hi]
  rw[if_neg hi,if_neg hi]
  by_cases hc:(zaw fs l i).2.2.2=0
  ·
   obtain⟨g1,g2⟩:=zeR fs l i hc
   rw[ziO rec deep fs l k m (zaw fs l i).1.to (by omega) (by omega)]
  ·
   rw[if_pos hc,if_pos hc]
theorem zdX (s:List Mes)(d m:Nat)(l:List UInt8)(i:Nat):zge s d m l i =
  if l.length≤i then (0,0) else
  if (zaw (s.getD m .zero).fields l i).2.2.2≠0 then (i,(zaw (s.getD m .zero).fields l i).2.2.2) else
  if (zjE (zlx s d) (decide (d=0)) (s.getD m .zero).fields l (zaw (s.getD m .zero).fields l i)).2≠0 then zjE (zlx s d) (decide (d=0)) (s.getD m .zero).fields l (zaw (s.getD m .zero).fields l i) else
  zge s d m l (zaw (s.getD m .zero).fields l i).1.to:=by
 unfold zge
 by_cases hi:l.length≤i
 ·
  rw[if_pos hi]
  cases hl:l.length with
  | zero=>rfl
  | succ k=>rw[zfI,if_pos hi]
 ·
  rw[if_neg hi]
  obtain⟨k,hk⟩:∃ k,l.length=k+1:=⟨l.length - 1,by omega⟩
  conv=>lhs;rw[hk,zfI,if_neg hi]
  by_cases hc:(zaw (s.getD m .zero).fields l i).2.2.2=0
  ·
   obtain⟨g1,g2⟩:=zeR (s.getD m .zero).fields l i hc
   rw[ziO _ _ _ l k l.length _ (by omega) (by omega)]
  ·
   rw[if_pos hc,if_pos hc]
theorem zqE (l:List UInt8)(i j:Nat)(hij:i≤j)(hj:j≤l.length):(zct l i j).length=j - i:=by
 unfold zct;rw[List.length_take,List.length_drop];omega
end
end Go.Proofs.YtpckoeicbjfnhaaGreatDoor
