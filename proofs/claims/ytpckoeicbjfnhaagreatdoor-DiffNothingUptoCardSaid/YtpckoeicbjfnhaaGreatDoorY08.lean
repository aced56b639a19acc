/- Parts of a proof: texts of the author, merged. No condition of their own. -/
import Derived.Test.YtpckoeicbjfnhaaGreatDoorY07
import Init
namespace Go.Proofs.YtpckoeicbjfnhaaGreatDoor
set_option maxRecDepth 100000
set_option maxHeartbeats 16000000
section
open Go.RowKit
def zbr (wire:Nat)(l:List UInt8):Nat × Nat:=
 if wire=0 then ((zaO l).2.1,(zaO l).2.2) else
 if l.length<(if wire=1 then 8 else 4) then (0,3) else (if wire=1 then 8 else 4,0)
theorem zog {w:World}{v:Value}{l:List UInt8}(h:zal w v l)(wire:Nat) :
  Calls Tryz.prog 240 #[.int .i64 wire,v] w fun e w'=>e= .returned (.tuple #[.int .i64 (zbr wire l).1,.int .u8 (zbr wire l).2])∧w=w':=by
 obtain⟨hlen,a,cap,rfl,-,-,-,hcell⟩:=h.open
 obtain⟨n,HN⟩:∃ n,Hid (n=l.length):=⟨_,rfl⟩
 obtain⟨x,HX⟩:∃ x,Hid (x=zbr wire l):=⟨_,rfl⟩
 rw[←HX.out]
 unfold zbr at HX
 rw[←HN.out] at HX hlen hcell h ⊢
 clear hcell
 by_cases h0:wire=0
 ·
  subst h0
  obtain rfl:x=((zaO l).2.1,(zaO l).2.2):=by rw[HX.out,if_pos rfl]
  go_enter Tryz.func240,Tryz.ntmps240
  go_wp2_with (go_at_call 221;refine (zfT h).mono ?_;rintro e w' ⟨rfl,rfl⟩)
  go_ret2
  exact⟨rfl,rfl⟩
 ·
  by_cases h1:wire=1
  ·
   subst h1
   by_cases hs:n<8
   ·
    obtain rfl:x=(0,3):=by rw[HX.out,if_neg (by decide),if_pos (by simpa using hs)]
    go_enter Tryz.func240,Tryz.ntmps240
    go_wp2
    go_ret2
    exact⟨rfl,rfl⟩
   ·
    obtain rfl:x=(8,0):=by rw[HX.out,if_neg (by decide),if_neg (by simpa using hs)];rfl
    go_enter Tryz.func240,Tryz.ntmps240
    go_wp2
    go_ret2
    exact⟨rfl,rfl⟩
  ·
   have e0:((wire:Int) == 0)=false:=by simp;omega
   have e1:((wire:Int) == 1)=false:=by simp;omega
   have HI1:=hid h1
   have HI0:=hid h0
   clear h0 h1
   by_cases hs:n<4
   ·
    obtain rfl:x=(0,3):=by rw[HX.out,if_neg HI0.out,if_pos (by rw[if_neg HI1.out];exact hs)]
    go_enter Tryz.func240,Tryz.ntmps240
    go_wp2
    go_ret2
    exact⟨rfl,rfl⟩
   ·
    obtain rfl:x=(4,0):=by rw[HX.out,if_neg HI0.out,if_neg (by rw[if_neg HI1.out];exact hs),if_neg HI1.out]
    go_enter Tryz.func240,Tryz.ntmps240
    go_wp2
    go_ret2
    exact⟨rfl,rfl⟩
end
section
open Go.RowKit
theorem zbm (wire:Nat)(l:List UInt8):(∃ n,zbr wire l=(n,0)∧0<n∧n≤10∧n≤l.length)∨(∃ c,zbr wire l=(0,c)∧(c=3∨c=4)):=by
 unfold zbr
 by_cases h0:wire=0
 ·
  rw[if_pos h0]
  rcases zcN l with ⟨x,n,e,h1,h2,h3,-⟩|⟨c,e,hc⟩
  ·
   exact .inl ⟨n,by rw[e],h1,h2,h3⟩
  ·
   exact .inr ⟨c,by rw[e],hc⟩
 ·
  rw[if_neg h0]
  by_cases h1:l.length<(if wire=1 then 8 else 4)
  ·
   rw[if_pos h1];exact .inr ⟨3,rfl,.inl rfl⟩
  ·
   rw[if_neg h1]
   refine .inl ⟨_,rfl,?_,?_,by omega⟩ <;> split <;> omega
def zgV (wire:Nat):Nat→List UInt8→Nat × Nat
 | 0,_=>(0,0)
 | k+1,l=>if l=[] then (0,0) else
   if (zbr wire l).2≠0 then (0,(zbr wire l).2) else
   if (zgV wire k (l.drop (zbr wire l).1)).2≠0 then (0,(zgV wire k (l.drop (zbr wire l).1)).2) else
   ((zgV wire k (l.drop (zbr wire l).1)).1+1,0)
def zaz (wire:Nat)(l:List UInt8):Nat × Nat:=zgV wire l.length l
theorem zjS (wire:Nat):∀ (k m:Nat) (l:List UInt8),l.length≤k→l.length≤m→zgV wire k l=zgV wire m l
 | 0,0,_,_,_=>rfl
 | 0,m+1,l,h,_=>by
  have:l=[]:=List.length_eq_zero_iff.1 (by omega)
  subst this
  simp[zgV]
 | k+1,0,l,_,h=>by
  have:l=[]:=List.length_eq_zero_iff.1 (by omega)
  subst this
  simp[zgV]
 | k+1,m+1,l,h1,h2=>by
  by_cases hl:l=[]
  ·
   simp[zgV,hl]
  ·
   rcases zbm wire l with ⟨n,e,h3,-,h4⟩|⟨c,e,hc⟩
   ·
    have:=zjS wire k m (l.drop n) (by simp;omega) (by simp;omega)
    simp only[zgV,e,this]
   ·
    have hc':c≠0:=by omega
    simp only[zgV,e,if_neg hl,if_pos hc']
theorem zeX (wire:Nat)(l:List UInt8)(hl:l≠[])(c:Nat)(hc:c≠0)(e:(zbr wire l).2=c):zaz wire l=(0,c):=by
 obtain⟨k,hk⟩:∃ k,l.length=k+1:=⟨l.length - 1,by have:=List.length_pos_iff.2 hl;omega⟩
 unfold zaz
 rw[hk]
 simp only[zgV,if_neg hl,e,if_pos hc]
theorem zdi (wire:Nat)(l:List UInt8)(hl:l≠[])(n:Nat)(e:zbr wire l=(n,0)) :
  zaz wire l=if (zaz wire (l.drop n)).2≠0 then (0,(zaz wire (l.drop n)).2) else ((zaz wire (l.drop n)).1+1,0):=by
 obtain⟨k,hk⟩:∃ k,l.length=k+1:=⟨l.length - 1,by have:=List.length_pos_iff.2 hl;omega⟩
 have hn:0<n:=by
  rcases zbm wire l with ⟨n',e',h3,-,h4⟩|⟨c,e',hc⟩
  ·
   rw[e] at e';cases e';exact h3
  ·
   rw[e] at e';cases e';omega
 have hf:=zjS wire k (l.drop n).length (l.drop n) (by simp;omega) (Nat.le_refl _)
 unfold zaz
 rw[hk]
 simp only[zgV,if_neg hl,e,hf]
 simp
/-! the values themselves -/
def zbO (wire:Nat):Nat→List UInt8→List (List UInt8)
 | 0,_=>[]
 | k+1,l=>if l=[] then [] else if (zbr wire l).2≠0 then [] else l.take (zbr wire l).1::zbO wire k (l.drop (zbr wire l).1)
def zbP (wire:Nat)(l:List UInt8):List (List UInt8):=zbO wire l.length l
theorem zfI (wire:Nat):∀ (k m:Nat) (l:List UInt8),l.length≤k→l.length≤m→zbO wire k l=zbO wire m l
 | 0,0,_,_,_=>rfl
 | 0,m+1,l,h,_=>by
  have:l=[]:=List.length_eq_zero_iff.1 (by omega)
  subst this
  simp[zbO]
 | k+1,0,l,_,h=>by
  have:l=[]:=List.length_eq_zero_iff.1 (by omega)
  subst this
  simp[zbO]
 | k+1,m+1,l,h1,h2=>by
  by_cases hl:l=[]
  ·
   simp[zbO,hl]
  ·
   rcases zbm wire l with ⟨n,e,h3,-,h4⟩|⟨c,e,hc⟩
   ·
    have:=zfI wire k m (l.drop n) (by simp;omega) (by simp;omega)
    simp only[zbO,e,this]
   ·
    have hc':c≠0:=by omega
    simp only[zbO,e,if_neg hl,if_pos hc']
theorem znh (wire:Nat):zbP wire []=[]:=rfl
theorem zij (wire:Nat)(l:List UInt8)(c:Nat)(hc:c≠0)(e:(zbr wire l).2=c):zbP wire l=[]:=by
 unfold zbP
 cases hk:l.length with
 | zero=>rfl
 | succ k =>
  have hl:l≠[]:=by rintro rfl;simp at hk
  simp only[zbO,if_neg hl,e,if_pos hc]
theorem zc5 (wire:Nat)(l:List UInt8)(hl:l≠[])(n:Nat)(e:zbr wire l=(n,0)):zbP wire l=l.take n::zbP wire (l.drop n):=by
 obtain⟨k,hk⟩:∃ k,l.length=k+1:=⟨l.length - 1,by have:=List.length_pos_iff.2 hl;omega⟩
 have hn:0<n:=by
  rcases zbm wire l with ⟨n',e',h3,-,h4⟩|⟨c,e',hc⟩
  ·
   rw[e] at e';cases e';exact h3
  ·
   rw[e] at e';cases e';omega
 have hf:=zfI wire k (l.drop n).length (l.drop n) (by simp;omega) (Nat.le_refl _)
 unfold zbP
 rw[hk]
 simp only[zbO,if_neg hl,e,hf]
 simp
theorem zfY (wire:Nat):∀ (m:Nat) (l:List UInt8),l.length≤m→(zbP wire l).length≤l.length
 | 0,l,h=>by
  obtain rfl:l=[]:=List.length_eq_zero_iff.1 (by omega)
  exact Nat.le_refl _
 | m+1,l,h=>by
  by_cases hl:l=[]
  ·
   subst hl;exact Nat.le_refl _
  rcases zbm wire l with ⟨n,e,h3,-,h4⟩|⟨c,e,hc⟩
  ·
   have ih:=zfY wire m (l.drop n) (by simp;omega)
   rw[zc5 wire l hl n e]
   simp at ih ⊢;omega
  ·
   rw[zij wire l c (by omega) (by rw[e])];simp
theorem zeY (wire:Nat):∀ (m:Nat) (l:List UInt8),l.length≤m→(zaz wire l).1=if (zaz wire l).2=0 then (zbP wire l).length else 0
 | 0,l,h=>by
  obtain rfl:l=[]:=List.length_eq_zero_iff.1 (by omega)
  rfl
 | m+1,l,h=>by
  by_cases hl:l=[]
  ·
   subst hl;rfl
  rcases zbm wire l with ⟨n,e,h3,-,h4⟩|⟨c,e,hc⟩
  ·
   have ih:=zeY wire m (l.drop n) (by simp;omega)
   rw[zdi wire l hl n e,zc5 wire l hl n e]
   by_cases h0:(zaz wire (l.drop n)).2=0
   ·
    simp only[h0,ne_eq,not_true_eq_false,if_false,if_true,List.length_cons] at ih ⊢
    rw[ih]
   ·
    simp[h0]
  ·
   rw[zeX wire l hl c (by omega) (by rw[e]),if_neg (show (0,c).2≠0 by show c≠0;omega)]
end
section
def zeO (c:Nat):Nat × Nat:=
 if c<128 then (1,c) else if 192≤c∧c<224 then (2,c % 32) else if 224≤c∧c<240 then (3,c % 16) else if 240≤c∧c<248 then (4,c % 8) else (0,0)
def zoh (n:Nat):Nat:=if n≤1 then 0 else if n=2 then 128 else if n=3 then 2048 else 65536
def zkR:Nat→Nat→List UInt8→Option Nat
 | 0,r,_=>some r
 | _+1,_,[]=>none
 | k+1,r,c::t=>if 128≤c.toNat∧c.toNat<192 then zkR k (r*64+c.toNat % 64) t else none
def ubad (n r:Nat):Bool:=decide (r<zoh n∨1114111<r∨55296≤r∧r≤57343)
def zc6 (l:List UInt8):Nat:=
 match l with
 | []=>0
 | c::t =>
  if (zeO c.toNat).1=0∨l.length<(zeO c.toNat).1 then 0 else
  match zkR ((zeO c.toNat).1 - 1) (zeO c.toNat).2 t with
  | none=>0
  | some r=>if ubad (zeO c.toNat).1 r then 0 else (zeO c.toNat).1
theorem zoi (c:Nat):(zeO c).1≤4:=by
 unfold zeO
 repeat' split
 all_goals simp
theorem zoj (l:List UInt8):zc6 l≤l.length∧zc6 l≤4:=by
 unfold zc6
 split
 ·
  exact⟨Nat.le_refl _,by omega⟩
 ·
  rename_i c t
  have:=zoi c.toNat
  split
  ·
   exact⟨Nat.zero_le _,by omega⟩
  ·
   split
   ·
    exact⟨Nat.zero_le _,by omega⟩
   ·
    split
    ·
     exact⟨Nat.zero_le _,by omega⟩
    ·
     exact⟨by omega,this⟩
def ugo:Nat→List UInt8→Nat
 | 0,_=>0
 | f+1,l=>if zc6 l=0 then 0 else zc6 l+ugo f (l.drop (zc6 l))
def zbw (l:List UInt8):Nat:=ugo l.length l
theorem zok:∀ (f g:Nat) (l:List UInt8),l.length≤f→f≤g→ugo g l=ugo f l
 | 0,g,l,h,_=>by
  obtain rfl:l=[]:=List.eq_nil_of_length_eq_zero (by omega)
  cases g <;> simp[ugo,zc6]
 | f+1,0,l,_,h=>by omega
 | f+1,g+1,l,h,hg=>by
  simp only[ugo]
  split
  ·
   rfl
  ·
   rw[zok f g _ (by rw[List.length_drop];omega) (by omega)]
theorem zni (l:List UInt8):zbw l=if zc6 l=0 then 0 else zc6 l+zbw (l.drop (zc6 l)):=by
 unfold zbw
 cases h:l.length with
 | zero =>
  obtain rfl:l=[]:=List.eq_nil_of_length_eq_zero h
  simp[ugo,zc6]
 | succ f =>
  simp only[ugo]
  split
  ·
   rfl
  ·
   rename_i hne
   have:=zoj l
   rw[zok (l.drop (zc6 l)).length f _ (Nat.le_refl _) (by rw[List.length_drop];omega)]
def b8 (n:Nat):UInt8:=UInt8.ofNat n
theorem b8_eq (n:Nat)(c:UInt8)(h:n<256):b8 n=c↔n=c.toNat:=by
 constructor
 ·
  rintro rfl;simp[b8];omega
 ·
  intro e;apply UInt8.toNat_inj.1;simp[b8];omega
theorem zik (c:Nat):(c<128∧zeO c=(1,c))∨(192≤c∧c<224∧zeO c=(2,c % 32))∨(224≤c∧c<240∧zeO c=(3,c % 16))∨(240≤c∧c<248∧zeO c=(4,c % 8)) ∨
  ((128≤c∧c<192∨248≤c)∧zeO c=(0,0)):=by
 unfold zeO
 by_cases h1:c<128
 ·
  exact .inl ⟨h1,if_pos h1⟩
 ·
  rw[if_neg h1]
  by_cases h2:192≤c∧c<224
  ·
   exact .inr (.inl ⟨h2.1,h2.2,if_pos h2⟩)
  ·
   rw[if_neg h2]
   by_cases h3:224≤c∧c<240
   ·
    exact .inr (.inr (.inl ⟨h3.1,h3.2,if_pos h3⟩))
   ·
    rw[if_neg h3]
    by_cases h4:240≤c∧c<248
    ·
     exact .inr (.inr (.inr (.inl ⟨h4.1,h4.2,if_pos h4⟩)))
    ·
     exact .inr (.inr (.inr (.inr ⟨by omega,if_neg h4⟩)))
end
section
open Go.RowKit
/-! A right schema -/
theorem zkS {n:Nat}{nm nu:Bool}{f:Fld}(h:zaN n nm nu f=0):zaM f.kind=true∧(f.kind=17→0≤f.of∧f.of<n)∧(f.kind≠17→f.of=0)∧(f.packed=true→f.rep=true∧zac f.kind=true):=by
 obtain⟨h1,rfl,h2,rfl⟩:=zcz h
 unfold zaN at h
 rw[if_neg (by simp[h1]),if_neg (by decide),if_neg (by simp[h2]),if_neg (by decide)] at h
 by_cases h3:zaM f.kind=false
 ·
  rw[if_pos h3] at h;omega
 rw[if_neg h3] at h
 by_cases h4:f.packed=true∧(f.rep=false∨zac f.kind=false)
 ·
  rw[if_pos h4] at h;omega
 rw[if_neg h4] at h
 by_cases h5:f.kind=17∧(f.of<0∨(n:Int)≤f.of)∨f.kind≠17∧f.of≠0
 ·
  rw[if_pos h5] at h;omega
 refine⟨by simpa using h3,fun e=>?_,fun e=>?_,fun e=>?_⟩
 ·
  constructor
  ·
   exact Int.not_lt.1 fun hh=>h5 (.inl ⟨e,.inl hh⟩)
  ·
   exact Int.not_le.1 fun hh=>h5 (.inl ⟨e,.inr hh⟩)
 ·
  exact Decidable.byContradiction fun hh=>h5 (.inr ⟨e,hh⟩)
 ·
  constructor
  ·
   cases hr:f.rep with
   | true=>rfl
   | false=>exact absurd ⟨e,.inl hr⟩ h4
  ·
   cases hr:zac f.kind with
   | true=>rfl
   | false=>exact absurd ⟨e,.inr hr⟩ h4
theorem zcd {n:Nat}:∀ (fs bf:List Fld) (k:Nat),zaD n bf fs k=none→∀ f∈fs,∃ nm nu,zaN n nm nu f=0
 | [],_,_,_=>by simp
 | g::r,bf,k,h=>by
  rw[zaD] at h
  by_cases h0:zaN n (zbI bf g.name) (zb2 bf g.number) g=0
  ·
   rw[if_pos h0] at h
   intro f hf
   rcases List.mem_cons.1 hf with rfl|hf
   ·
    exact⟨_,_,h0⟩
   ·
    exact zcd r _ _ h f hf
  ·
   rw[if_neg h0] at h;cases h
theorem zci {n:Nat}:∀ (s bm:List Mes) (i:Nat),(zcc n bm s i).2.2=0→∀ m∈s,zaD n [] m.fields 0=none∧m.fields.length≤200∧zaY m.name=true
 | [],_,_,_=>by simp
 | g::r,bm,i,h=>by
  rw[zcc] at h
  by_cases h1:zaY g.name=false
  ·
   rw[if_pos h1] at h;simp at h
  rw[if_neg h1] at h
  by_cases h2:zfG bm g.name=true
  ·
   rw[if_pos h2] at h;simp at h
  rw[if_neg h2] at h
  by_cases h3:200<g.fields.length
  ·
   rw[if_pos h3] at h;simp at h
  rw[if_neg h3] at h
  cases h4:zaD n [] g.fields 0 with
  | some p =>
   rw[h4] at h
   obtain⟨k,x⟩:=p
   have:x≠0:=by
    rintro rfl
    exact fieldsFault_nz _ _ _ h4
   simp at h
   exact absurd h this
  | none =>
   rw[h4] at h
   intro m hm
   rcases List.mem_cons.1 hm with rfl|hm
   ·
    exact⟨h4,by omega,by simpa using h1⟩
   ·
    exact zci r _ _ h m hm
where
 fieldsFault_nz {n:Nat}:∀ (fs bf:List Fld) (k:Nat) {j:Nat},zaD n bf fs k≠some (j,0)
 | [],_,_,_=>by simp[zaD]
 | g::r,bf,k,j=>by
  rw[zaD]
  by_cases h0:zaN n (zbI bf g.name) (zb2 bf g.number) g=0
  ·
   rw[if_pos h0];exact fieldsFault_nz r _ _
  ·
   rw[if_neg h0]
   intro h
   injection h with h
   exact h0 (congrArg Prod.snd h)
theorem zco {s:List Mes}(h:zaw s=true)(m:Nat)(hm:m<s.length)(f:Fld)(hf:f∈(s.getD m .zero).fields) :
  zaM f.kind=true∧(f.kind=17→0≤f.of∧f.of<s.length)∧(f.kind≠17→f.of=0)∧(f.packed=true→f.rep=true∧zac f.kind=true):=by
 have h0:(zbJ s).2.2=0:=of_decide_eq_true h
 unfold zbJ at h0
 by_cases h1:s.length=0∨100<s.length
 ·
  rw[if_pos h1] at h0;simp at h0
 rw[if_neg h1] at h0
 have hmem:s.getD m .zero∈s:=by
  have:s.getD m .zero=s[m]:=by simp[List.getD,hm]
  rw[this];exact List.getElem_mem hm
 obtain⟨h2,-,-⟩:=zci s [] 0 h0 _ hmem
 obtain⟨nm,nu,h3⟩:=zcd _ _ _ h2 f hf
 exact zkS h3
theorem zpa {s:List Mes}(h:zaw s=true):0<s.length∧s.length≤100:=by
 have h0:(zbJ s).2.2=0:=of_decide_eq_true h
 unfold zbJ at h0
 by_cases h1:s.length=0∨100<s.length
 ·
  rw[if_pos h1] at h0;simp at h0
 omega
/-! A record,looked at -/
theorem zem (fs:List Fld)(n:Int):zae fs n= -1∨∃ k:Nat,k<fs.length∧zae fs n=k∧(fs.getD k .zero).number=n:=by
 have gen:∀ (l:List Fld) (i:Nat),zai (fun f=>decide (f.number=n)) l i= -1∨∃ k:Nat,k<l.length∧zai (fun f=>decide (f.number=n)) l i=((i+k:Nat):Int)∧(l.getD k .zero).number=n:=by
  intro l
  induction l with
  | nil=>intro i;exact .inl rfl
  | cons f r ih =>
   intro i
   rw[zai]
   by_cases h:f.number=n
   ·
    exact .inr ⟨0,by simp,by simp[h],by simpa using h⟩
   ·
    rw[if_neg (by simpa using h)]
    rcases ih (i+1) with h1|⟨k,h1,h2,h3⟩
    ·
     exact .inl h1
    ·
     exact .inr ⟨k+1,by simpa using h1,by rw[h2];congr 1;omega,by simpa using h3⟩
 rcases gen fs 0 with h|⟨k,h1,h2,h3⟩
 ·
  exact .inl h
 ·
  exact .inr ⟨k,h1,by unfold zae;rw[h2,Nat.zero_add],h3⟩
theorem zbC (fs:List Fld)(l:List UInt8)(i:Nat) :
  (∃ c,c≠0∧zao fs l i=(.none,0,false,c)∧c<256) ∨
  (∃ r:Rec,r.start=i∧i<r.at'∧r.at'≤r.to∧r.to≤l.length∧zaJ l i=(r,0) ∧
   (zao fs l i=(r,-1,false,0) ∨
   ∃ (k:Nat) (run:Bool),k<fs.length∧zao fs l i=(r,(k:Int),run,0)∧(fs.getD k .zero).number=r.number ∧
    (run=true→(fs.getD k .zero).rep=true∧zac (fs.getD k .zero).kind=true∧r.wire=2)∧(run=false→zaM (fs.getD k .zero).kind=true∧zas (fs.getD k .zero).kind=r.wire))):=by
 have hn:∀ c,zaJ l i=(.none,c)→c≠0→c<256→zao fs l i=(.none,0,false,c):=fun c h1 h2 _=>by
  unfold zao
  rw[h1]
  simp[h2]
 rcases zbB l i with ⟨hi,er⟩|⟨hi,c,et,hc,er⟩|⟨hi,k,x,n,et,h1,h2,h3,h4,h5,h6,hcs⟩
 ·
  exact .inl ⟨2,by decide,hn _ er (by decide) (by decide),by decide⟩
 ·
  exact .inl ⟨c,by omega,hn _ er (by omega) (by omega),by omega⟩
 ·
  rcases hcs with ⟨a,m,c,es,hc,-,-,er⟩|⟨a,m,es,-,-,-,-,er⟩|⟨a,m,es,g1,g2,g3,er⟩
  ·
   exact .inl ⟨c,by omega,hn _ er (by omega) (by omega),by omega⟩
  ·
   exact .inl ⟨3,by decide,hn _ er (by decide) (by decide),by decide⟩
  ·
   have hv:zao fs l i=if zae fs k<0 then (⟨k,x,i,i+n+a,i+n+a+m⟩,-1,false,0) else
     if ((fs.getD (zae fs k).toNat .zero).rep&&zac (fs.getD (zae fs k).toNat .zero).kind&&decide (x=2))=true then (⟨k,x,i,i+n+a,i+n+a+m⟩,zae fs k,true,0) else
     if zaM (fs.getD (zae fs k).toNat .zero).kind=false∨zas (fs.getD (zae fs k).toNat .zero).kind≠x then (.none,0,false,6) else (⟨k,x,i,i+n+a,i+n+a+m⟩,zae fs k,false,0):=by
    unfold zao
    rw[er]
    rfl
   rcases zem fs k with hf|⟨j,hj,hf,hjn⟩
   ·
    rw[hf,if_pos (by decide)] at hv
    exact .inr ⟨_,rfl,by simp;omega,by simp,by simp;omega,er,.inl hv⟩
   ·
    rw[hf,if_neg (by omega)] at hv
    simp only[Int.toNat_natCast] at hv
    by_cases hrun:((fs.getD j .zero).rep&&zac (fs.getD j .zero).kind&&decide (x=2))=true
    ·
     rw[if_pos hrun] at hv
     simp only[Bool.and_eq_true,decide_eq_true_eq] at hrun
     exact .inr ⟨_,rfl,by simp;omega,by simp,by simp;omega,er,.inr ⟨j,true,hj,hv,hjn,fun _=>⟨hrun.1.1,hrun.1.2,hrun.2⟩,fun h=>(by cases h)⟩⟩
    ·
     rw[if_neg hrun] at hv
     by_cases hbad:zaM (fs.getD j .zero).kind=false∨zas (fs.getD j .zero).kind≠x
     ·
      rw[if_pos hbad] at hv
      exact .inl ⟨6,by decide,hv,by decide⟩
     ·
      rw[if_neg hbad] at hv
      have g4:zaM (fs.getD j .zero).kind=true:=by
       cases h:zaM (fs.getD j .zero).kind with
       | true=>rfl
       | false=>exact absurd (.inl h) hbad
      have g5:zas (fs.getD j .zero).kind=x:=Decidable.byContradiction fun h=>hbad (.inr h)
      exact .inr ⟨_,rfl,by simp;omega,by simp,by simp;omega,er,.inr ⟨j,false,hj,hv,hjn,fun h=>(by cases h),fun _=>⟨g4,g5⟩⟩⟩
/-! The first that is not right -/
def zbx (l:List UInt8)(i j:Nat):List UInt8:=(l.drop i).take (j - i)
def zgW (rec:Nat→List UInt8→Nat × Nat)(deep:Bool)(fs:List Fld)(l:List UInt8)(v:Rec × Int × Bool × Nat):Nat × Nat:=
 if v.2.1<0 then (0,0) else
 let f:=fs.getD v.2.1.toNat .zero
 if v.2.2.1=true then (v.1.start,(zaz (zas f.kind) (zbx l v.1.at' v.1.to)).2) else
 if f.kind=15 then (if zbw (zbx l v.1.at' v.1.to)=(zbx l v.1.at' v.1.to).length then (0,0) else (v.1.start,7)) else
 if f.kind=17 then (if deep=true then (v.1.start,8) else (v.1.at'+(rec f.of.toNat (zbx l v.1.at' v.1.to)).1,(rec f.of.toNat (zbx l v.1.at' v.1.to)).2)) else
 (0,0)
def zeZ (rec:Nat→List UInt8→Nat × Nat)(deep:Bool)(fs:List Fld)(l:List UInt8):Nat→Nat→Nat × Nat
 | 0,_=>(0,0)
 | k+1,i=>if l.length≤i then (0,0) else
  if (zao fs l i).2.2.2≠0 then (i,(zao fs l i).2.2.2) else
  if (zgW rec deep fs l (zao fs l i)).2≠0 then zgW rec deep fs l (zao fs l i) else zeZ rec deep fs l k (zao fs l i).1.to
def zdb (s:List Mes):Nat→Nat→List UInt8→Nat × Nat
 | 0,m,l=>zeZ (fun _ _=>(0,0)) true (s.getD m .zero).fields l l.length 0
 | d+1,m,l=>zeZ (zdb s d) false (s.getD m .zero).fields l l.length 0
def zlZ (s:List Mes):Nat→Nat→List UInt8→Nat × Nat
 | 0=>fun _ _=>(0,0)
 | d+1=>zdb s d
def zgX (s:List Mes)(d m:Nat)(l:List UInt8)(i:Nat):Nat × Nat:=zeZ (zlZ s d) (decide (d=0)) (s.getD m .zero).fields l l.length i
theorem ze0 (s:List Mes)(d m:Nat)(l:List UInt8):zdb s d m l=zgX s d m l 0:=by cases d <;> rfl
theorem zdQ (fs:List Fld)(l:List UInt8)(i:Nat)(h:(zao fs l i).2.2.2=0):i<(zao fs l i).1.to∧(zao fs l i).1.to≤l.length:=by
 rcases zbC fs l i with ⟨c,hc,e,-⟩|⟨r,h1,h2,h3,h4,-,e|⟨k,run,-,e,-⟩⟩
 ·
  rw[e] at h;exact absurd h hc
 ·
  rw[e];exact⟨by show i<r.to;omega,h4⟩
 ·
  rw[e];exact⟨by show i<r.to;omega,h4⟩
theorem zjT (rec:Nat→List UInt8→Nat × Nat)(deep:Bool)(fs:List Fld)(l:List UInt8):∀ (k m i:Nat),l.length≤k+i→l.length≤m+i→zeZ rec deep fs l k i=zeZ rec deep fs l m i
 | 0,0,_,_,_=>rfl
 | 0,m+1,i,h,_=>by rw[zeZ,zeZ,if_pos (by omega)]
 | k+1,0,i,_,h=>by rw[zeZ,zeZ,if_pos (by omega)]
 | k+1,m+1,i,h1,h2=>by
  rw[zeZ,zeZ]
  by_cases hi:l.length≤i
  ·
   rw[if_pos hi,if_pos hi]
  rw[if_neg hi,if_neg hi]
  by_cases hc:(zao fs l i).2.2.2=0
  ·
   obtain⟨g1,g2⟩:=zdQ fs l i hc
   rw[zjT rec deep fs l k m (zao fs l i).1.to (by omega) (by omega)]
  ·
   rw[if_pos hc,if_pos hc]
theorem zdj (s:List Mes)(d m:Nat)(l:List UInt8)(i:Nat):zgX s d m l i =
  if l.length≤i then (0,0) else
  if (zao (s.getD m .zero).fields l i).2.2.2≠0 then (i,(zao (s.getD m .zero).fields l i).2.2.2) else
  if (zgW (zlZ s d) (decide (d=0)) (s.getD m .zero).fields l (zao (s.getD m .zero).fields l i)).2≠0 then zgW (zlZ s d) (decide (d=0)) (s.getD m .zero).fields l (zao (s.getD m .zero).fields l i) else
  zgX s d m l (zao (s.getD m .zero).fields l i).1.to:=by
 unfold zgX
 by_cases hi:l.length≤i
 ·
  rw[if_pos hi]
  cases hl:l.length with
  | zero=>rfl
  | succ k=>rw[zeZ,if_pos hi]
 ·
  rw[if_neg hi]
  obtain⟨k,hk⟩:∃ k,l.length=k+1:=⟨l.length - 1,by omega⟩
  conv=>lhs;rw[hk,zeZ,if_neg hi]
  by_cases hc:(zao (s.getD m .zero).fields l i).2.2.2=0
  ·
   obtain⟨g1,g2⟩:=zdQ (s.getD m .zero).fields l i hc
   rw[zjT _ _ _ l k l.length _ (by omega) (by omega)]
  ·
   rw[if_pos hc,if_pos hc]
theorem zol (l:List UInt8)(i j:Nat)(hij:i≤j)(hj:j≤l.length):(zbx l i j).length=j - i:=by
 unfold zbx;rw[List.length_take,List.length_drop];omega
theorem znj (wire:Nat)(l:List UInt8):(zaz wire l).2=0∨(zaz wire l).2=3∨(zaz wire l).2=4:=by
 have:∀ (m:Nat) (l:List UInt8),l.length≤m→(zaz wire l).2=0∨(zaz wire l).2=3∨(zaz wire l).2=4:=by
  intro m
  induction m with
  | zero=>intro l h;obtain rfl:l=[]:=List.length_eq_zero_iff.1 (by omega);exact .inl rfl
  | succ m ih =>
   intro l h
   by_cases hl:l=[]
   ·
    subst hl;exact .inl rfl
   rcases zbm wire l with ⟨n,e,h3,-,h4⟩|⟨c,e,hc⟩
   ·
    rw[zdi wire l hl n e]
    have:=ih (l.drop n) (by simp;omega)
    by_cases h0:(zaz wire (l.drop n)).2=0
    ·
     simp[h0]
    ·
     rw[if_pos h0];exact this
   ·
    rw[zeX wire l hl c (by omega) (by rw[e])];exact .inr hc
 exact this _ l (Nat.le_refl _)
end
end Go.Proofs.YtpckoeicbjfnhaaGreatDoor
