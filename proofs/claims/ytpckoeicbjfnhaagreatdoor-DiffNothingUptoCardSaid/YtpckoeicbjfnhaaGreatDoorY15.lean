/- Parts of a proof: texts of the author, merged. No condition of their own. -/
import Derived.Test.YtpckoeicbjfnhaaGreatDoorY01
import Derived.Test.YtpckoeicbjfnhaaGreatDoorY03
import Derived.Test.YtpckoeicbjfnhaaGreatDoorY06
import Derived.Test.YtpckoeicbjfnhaaGreatDoorY07
import Derived.Test.YtpckoeicbjfnhaaGreatDoorY14
import Derived.Laws.IdiomStrings
import Derived.Laws.AppendOwn
namespace Go.Proofs.YtpckoeicbjfnhaaGreatDoor
set_option maxRecDepth 100000
set_option maxHeartbeats 16000000
section
open Go.RowKit
theorem zqL:Tryz.prog.underlying 9=some .string:=Tryz.underlying9
theorem zsj:Tryz.prog.underlying 5=some (.int .u8):=Tryz.underlying5
theorem zl5 (w:World)(t:List UInt8)(ht:t.length≤140737488355328) :
  ∃ g c w',(convert 9 47 (.string ⟨t.toArray⟩)).run Tryz.prog w= .ok (.slice (some ⟨g,0,none⟩) t.length c) w'∧Below w.heap.size w w'∧zal w' (.slice (some ⟨g,0,none⟩) t.length c) t:=by
 have h:=run_bytes_of_string (P:=Tryz.prog) w 9 47 5 ⟨t.toArray⟩ zqL zaG zsj
 have hsz:(⟨t.toArray⟩:ByteArray).size=t.length:=by simp[ByteArray.size]
 rw[hsz] at h
 refine⟨_,_,_,h,((Below.refl w.heap.size w).drew).alloc (Nat.le_refl _) _,by simp,ht,_,_,rfl,grownCap_ge _ _ _ _,?_,by simp,?_⟩
 ·
  have:=grownCap_le_maxLen w t.length 0 5 (by unfold maxLen;omega)
  unfold maxLen at this;omega
 ·
  intro j u hu
  refine⟨_,_,rfl,?_⟩
  rw[Nat.zero_add,List.getElem?_map] at *
  have hj:j<t.length:=by
   rcases Nat.lt_or_ge j t.length with h|h
   ·
    exact h
   ·
    rw[List.getElem?_eq_none h] at hu;simp at hu
  have hb:=bytesRow_at ⟨t.toArray⟩ (grownCap w t.length 0 5) j (by simpa using hj)
  rw[List.getElem?_eq_getElem hj] at hu
  simp only[Option.map_some,Option.some.injEq] at hu
  subst hu
  rw[show w.heap.size=w.drew.heap.size from rfl,cell_of_row _ _ _ _ _ _ (heap_alloc_new w.drew _)]
  rw[hb]
  simp[zfB]
theorem zaf.step2 {α:Type}{P:World→List Value→α→Prop}{T:TypeId}{k n0 base i:Nat}{wr w1:World}{oa:Option Addr}{oc:Nat}{l:List α}(h:zaf P T k n0 base wr (.slice oa i oc) l)(hb:Below wr.heap.size wr w1)(hk:0<k)(hn0:n0≤base)(hbs:base≤wr.heap.size)(hil:l.length=i)
  {G:Program} (t:TypeId) (z:Value) (bytes:Nat) (ht:G.underlying t=some (.slice T)) (hinfo:(G.info? T).map (fun i=>(i.zero,i.size,i.bytes))=some (some z,k,bytes)) (hzs:z.cells.size=k)
  (cells:Array Value) (hr:cells.size=k) (h1:∀ u∈cells.toList,u.oneCell'=true) (x:α) (hP:zc8 n0 wr.heap.size w1 fun w'=>P w' cells.toList x) (hlen:i≤1099511627776) (hby:bytes≤120) :
  ∃ a' c' w5,(Builtin.append_ #[t,t] t #[.slice oa i oc,.slice (some ⟨w1.heap.size,0,none⟩) 1 1]).run G (w1.alloc (.cells cells T))= .ok (.slice a' (i+1) c') w5∧zaf P T k n0 base w5 (.slice a' (i+1) c') (l++[x]) ∧
   Below base wr (w1.alloc (.cells cells T))∧Below base wr w5∧∀ b,wr.heap.size≤b→b<w1.heap.size→w5.heap[b]?=w1.heap[b]?:=by
 have hs:=hb.size
 have hB1:Below base wr (w1.alloc (.cells cells T)):=(hb.mono hbs).alloc (by omega) _
 obtain⟨v',w',hrun,hO,hg,-⟩:=(h.below hb).append hk hn0 t z bytes ht hinfo hzs cells hr h1 x wr.heap.size (fun b e=>(h.own b e).2) hbs hP (by omega) hby (by omega)
 obtain⟨a',c',rfl⟩:=hO.form
 rw[List.length_append,List.length_singleton,hil] at *
 refine⟨a',c',w',hrun,hO,hB1,hB1.grown hg (by have:=hB1.size;omega) fun q e=>(h.own q e).1,fun b h1 h2=>?_⟩
 refine (hg.block b (by simp;omega) (fun e=>?_)).trans (Below.heap_alloc w1 _ b h2)
 have:=(h.own b e.symm).2
 omega
def recP (_:World)(r:List Value)(x:Rec):Prop:=r=zqt x
def ze6 (l:List UInt8):Prop:=(zaJ l 0).2=0∧(zaJ l 0).1.to=l.length
instance (l:List UInt8):Decidable (ze6 l):=by unfold ze6;infer_instance
theorem zk3 {l:List UInt8}{i:Nat}(h:(zaJ l i).2=0):i<l.length∧i<(zaJ l i).1.to∧(zaJ l i).1.to≤l.length:=by
 rcases zbB l i with ⟨h1,h2⟩|⟨h1,c,-,h2,h3⟩|⟨h1,k,x,n,-,h2,h3,h4,h5,h6,h7,⟨a,m,c,-,g1,g2,g3,g4⟩|⟨a,m,-,g1,g2,g3,g4,g5⟩|⟨a,m,-,g1,g2,g3,g4⟩⟩
 ·
  rw[h2] at h;simp at h
 ·
  rw[h3] at h;simp at h;omega
 ·
  rw[g4] at h;simp at h;omega
 ·
  rw[g5] at h;simp at h
 ·
  rw[g4];exact⟨h1,by simp;omega,by simp;omega⟩
theorem zpg (l:List UInt8)(i:Nat):(zaJ l i).2<256:=by
 rcases zbB l i with ⟨h1,h2⟩|⟨h1,c,-,h2,h3⟩|⟨h1,k,x,n,-,h2,h3,h4,h5,h6,h7,⟨a,m,c,-,g1,g2,g3,g4⟩|⟨a,m,-,g1,g2,g3,g4,g5⟩|⟨a,m,-,g1,g2,g3,g4⟩⟩
 ·
  rw[h2];decide
 ·
  rw[h3];show c<256;omega
 ·
  rw[g4];show c<256;omega
 ·
  rw[g5];decide
 ·
  rw[g4];show 0<256;decide
theorem zal.below_from {w wr:World}{v:Value}{l:List UInt8}(h:zal w v l)(hb:Below w.heap.size w wr):zal wr v l:=h.below hb
theorem zsk:(Tryz.prog.info? 210).map (fun i=>(i.zero,i.size,i.bytes))=some (some (.agg #[.int .i64 0,.int .i64 0,.int .i64 0,.int .i64 0,.int .i64 0]),5,40):=by kernel_rfl
def zph (w:World)(l:List UInt8)(e:Ending)(w':World):Prop:=
 ∃ (a:Option Addr) (n c:Nat) (at' cd:Nat),e= .returned (.tuple #[.slice a n c,.int .i64 at',.int .u8 cd])∧cd<256∧Below w.heap.size w w' ∧
  ((ze6 l∧cd=0∧n=1∧∃ b o,a=some ⟨b,o,none⟩∧w'.cell? ⟨b,o,none⟩=some (.int .i64 (zaJ l 0).1.number))∨(¬ ze6 l∧(cd≠0∨n≠1)))
theorem zl6 {w:World}{v:Value}{l:List UInt8}(h:zal w v l)(hl:l.length≤1099511627776) :
  Calls Tryz.prog 144 #[v] w fun e w'=>zph w l e w':=by
 have HV:=hid h
 have HLL:=hid hl
 obtain⟨hlen,a,cap,rfl,-,-,-,-⟩:=h.open
 obtain⟨n,HN⟩:∃ n,Hid (n=l.length):=⟨_,rfl⟩
 rw[←HN.out] at HV hlen HLL hl ⊢
 clear h
 go_enter Tryz.func144,Tryz.ntmps144
 go_wp2_with fail
 go_loopw [5,6,7,8] (fun v5 v6 _ _ wr=>∃ (pre:List Rec) (oa:Option Addr) (m oc at':Nat),v5= .slice oa m oc∧v6= .int .i64 at'∧at'≤n∧m≤at'∧Hid (m=pre.length) ∧
   Hid ((pre=[]∧at'=0)∨(pre=[(zaJ l 0).1]∧(zaJ l 0).2=0∧at'=(zaJ l 0).1.to)∨(2≤pre.length∧¬ ze6 l)) ∧
   Hid (Below w.heap.size w wr∧zaf recP 210 5 0 w.heap.size wr (.slice oa m oc) pre)) (fun _ v6 _ _ _=>n - (intOf v6).toNat)
 case atStart=>exact⟨[],none,0,0,0,rfl,rfl,by omega,by omega,rfl,.inl ⟨rfl,rfl⟩,Below.refl _ _,zaf.nil _ _ _ _ _ _⟩
 case round =>
  obtain⟨pre,oa,m,oc,at',rfl,rfl,hat,hmat,HM,HS,HI⟩:=hrel
  by_cases hlt:at'<n
  ·
   obtain⟨r,c,HR⟩:∃ r c,Hid (zaJ l at'=(r,c)):=⟨_,_,rfl⟩
   have hc256:c<256:=by
    have:=zpg l at'
    rw[HR.out] at this
    exact this
   have HNX:=hid (zid (HV.out.below_from HI.out.1) at' (by omega))
   rw[HR.out] at HNX
   by_cases hc:c=0
   ·
    subst hc
    have hok:at'<r.to∧r.to≤n:=by
     have:=zk3 (l:=l) (i:=at') (by rw[HR.out])
     rw[HR.out,←HN.out] at this
     exact this.2
    have HST:Hid ((pre++[r]=[(zaJ l 0).1]∧(zaJ l 0).2=0∧r.to=(zaJ l 0).1.to)∨(2≤(pre++[r]).length∧¬ ze6 l)):=by
     rcases HS.out with ⟨rfl,rfl⟩|⟨rfl,h1,rfl⟩|⟨h1,h2⟩
     ·
      exact .inl ⟨by rw[HR.out];rfl,by rw[HR.out],by rw[HR.out]⟩
     ·
      exact .inr ⟨by simp,fun h=>by have:=h.2;have:=HN.out;omega⟩
     ·
      exact .inr ⟨by simp;omega,h2⟩
    go_wp2_with fail
    refine HNX.out.mono ?_
    rintro e w1 ⟨rfl,hb1⟩
    obtain⟨rn,rw',rs,ra,rt⟩:=r
    simp only[Rec.val]
    have hb2:=hb1.alloc hb1.size (.cells #[.int .i64 rn,.int .i64 rw',.int .i64 rs,.int .i64 ra,.int .i64 rt] 210)
    have hk2:=Blk.new w1 [.int .i64 rn,.int .i64 rw',.int .i64 rs,.int .i64 ra,.int .i64 rt] 210
    have hX:wr.heap.size≤w1.heap.size:=hb1.size
    go_wp2_with fail
    generalize hW2:w1.alloc (.cells #[.int .i64 rn,.int .i64 rw',.int .i64 rs,.int .i64 ra,.int .i64 rt] 210)=W2 at *
    clear hW2
    generalize w1.heap.size=X at *
    clear hb1
    obtain⟨a5,c5,w5,hr5,hO5,hB4,hB5,hk5⟩:=zaf.step2 HI.out.2 hb2.drew (by decide) (by omega) HI.out.1.size HM.out.symm 230 _ 40 Tryz.underlying230 zsk rfl #[.int .i64 rn,.int .i64 rw',.int .i64 rs,.int .i64 ra,.int .i64 rt] rfl (by intro u hu;simp at hu;rcases hu with rfl|rfl|rfl|rfl|rfl <;> rfl) ⟨rn,rw',rs,ra,rt⟩ (fun _ _=>rfl) (by have:=HLL.out;omega) (by decide)
    have hkd:Blk W2.drew X [.int .i64 rn,.int .i64 rw',.int .i64 rs,.int .i64 ra,.int .i64 rt] 210:=hk2
    have hke:Blk (W2.alloc (.cells #[.int .i64 rn,.int .i64 rw',.int .i64 rs,.int .i64 ra,.int .i64 rt] 210)).drew X [.int .i64 rn,.int .i64 rw',.int .i64 rs,.int .i64 ra,.int .i64 rt] 210:=hkd.alloc (.cells #[.int .i64 rn,.int .i64 rw',.int .i64 rs,.int .i64 ra,.int .i64 rt] 210)
    have hkf:Blk w5 X [.int .i64 rn,.int .i64 rw',.int .i64 rs,.int .i64 ra,.int .i64 rt] 210:=(hk5 X hX hk2.lt).trans hkd
    have k0:W2.drew.cell? ⟨X,0,none⟩=some (.int .i64 rn)∧W2.drew.cell? ⟨X,1,none⟩=some (.int .i64 rw')∧W2.drew.cell? ⟨X,2,none⟩=some (.int .i64 rs)∧W2.drew.cell? ⟨X,3,none⟩=some (.int .i64 ra)∧W2.drew.cell? ⟨X,4,none⟩=some (.int .i64 rt):=⟨hkd.cell 0 _ rfl,hkd.cell 1 _ rfl,hkd.cell 2 _ rfl,hkd.cell 3 _ rfl,hkd.cell 4 _ rfl⟩
    have k1:=And.intro (hke.cell 0 _ rfl) (And.intro (hke.cell 1 _ rfl) (And.intro (hke.cell 2 _ rfl) (And.intro (hke.cell 3 _ rfl) (hke.cell 4 _ rfl))))
    have k3:=And.intro (hkf.cell 0 _ rfl) (And.intro (hkf.cell 1 _ rfl) (And.intro (hkf.cell 2 _ rfl) (And.intro (hkf.cell 3 _ rfl) (hkf.cell 4 _ rfl))))
    have hXl:=hk2.lt
    have HR5:Hid ((Builtin.append_ #[230,230] 230 #[.slice oa m oc,.slice (some ⟨W2.heap.size,0,none⟩) 1 1]).run Tryz.prog (W2.alloc (.cells #[.int .i64 rn,.int .i64 rw',.int .i64 rs,.int .i64 ra,.int .i64 rt] 210)).drew= .ok (.slice a5 (m+1) c5) w5):=hr5
    have HO5:=hid hO5
    have HB5:=hid hB5
    clear hkd hke hkf hr5 hO5 hB4 hB5 hk5 hb2 hk2
    go_region_held3 (fun w'=>w'.cell? ⟨X,0,none⟩=some (.int .i64 rn)∧w'.cell? ⟨X,1,none⟩=some (.int .i64 rw')∧w'.cell? ⟨X,2,none⟩=some (.int .i64 rs)∧w'.cell? ⟨X,3,none⟩=some (.int .i64 ra)∧w'.cell? ⟨X,4,none⟩=some (.int .i64 rt)) (first|(with_reducible exact k0)|(with_reducible exact k1)|(with_reducible exact k3)|go_keep) (first|(refine za9 rfl (.tmp 23) (.tmp 25) _ rfl _ _ rfl rfl HR5.out ?_))
    go_wp2_with fail
    go_roundw
    case rel=>exact⟨pre++[⟨rn,rw',rs,ra,rt⟩],_,_,_,rt,rfl,rfl,hok.2,by have:=hok.1;omega,by rw[Hid,List.length_append,←HM.out];rfl,.inr HST.out,HB5.out |> fun h=>HI.out.1.trans (h.mono (by omega)),HO5.out⟩
    case measure=>simp[intOf];have:=hok.1;omega
   ·
    have hno:¬ ze6 l:=by
     rcases HS.out with ⟨rfl,rfl⟩|⟨rfl,h1,rfl⟩|⟨h1,h2⟩
     ·
      exact fun h=>hc (by have:=h.1;rw[HR.out] at this;exact this)
     ·
      exact fun h=>by have:=h.2;have:=HN.out;omega
     ·
      exact h2
    have HNO:=hid hno
    clear hno
    go_wp2_with fail
    refine HNX.out.mono ?_
    rintro e w1 ⟨rfl,hb1⟩
    obtain⟨rn,rw',rs,ra,rt⟩:=r
    simp only[Rec.val]
    go_wp2_with fail
    go_ret3
    exact⟨none,0,0,at',c,rfl,hc256,(HI.out.1.trans (hb1.mono HI.out.1.size)).alloc (by have:=HI.out.1.size;have:=hb1.size;omega) _,.inr ⟨HNO.out,.inl hc⟩⟩
  ·
   obtain rfl:at'=n:=by omega
   go_wp2_with fail
   go_ret3
   refine⟨oa,m,oc,0,0,rfl,by decide,HI.out.1,?_⟩
   rcases HS.out with ⟨rfl,h1⟩|⟨rfl,h1,h2⟩|⟨h1,h2⟩
   ·
    refine .inr ⟨fun h=>?_,.inr (by rw[HM.out];simp)⟩
    have:=(zk3 h.1).1
    have:=HN.out
    omega
   ·
    refine .inl ⟨⟨h1,by rw[←h2];exact HN.out⟩,rfl,by rw[HM.out];rfl,?_⟩
    have hR:=HI.out.2.at (by simp) (w':=wr) (fun _ _ _=>rfl)
    obtain⟨-,a',cap',he,-,hat'⟩:=hR.open (by decide)
    cases he
    obtain⟨b,o,r,ha,-,hc,hP⟩:=hat' 0 _ rfl
    refine⟨b,o,ha,?_⟩
    have:=hc 0 _ (by rw[hP];rfl)
    simpa using this
   ·
    exact .inr ⟨h2,.inr (by rw[HM.out];omega)⟩
theorem zno (fs:List Fld)(t:List UInt8):zbf fs t=(decide (ze6 t) && !decide (0≤zae fs (zaJ t 0).1.number)):=by
 unfold zbf ze6
 congr 1
 by_cases h:0≤zae fs (zaJ t 0).1.number
 ·
  rw[decide_eq_false (by omega),decide_eq_true h];rfl
 ·
  rw[decide_eq_true (by omega),decide_eq_false h];rfl
theorem zsl (w:World):(sizeOf 210).run Tryz.prog w= .ok 5 w:=by kernel_rfl
theorem zk4 {w:World}{v:Value}{fs:List Fld}(h:zaK w v fs)(nm:ByteArray)(t:List UInt8)(ht:t.length≤1099511627776) :
  Calls Tryz.prog 96 #[.agg #[.string nm,v],zb3 t] w fun e w'=>e= .returned (.bool (zbf fs t))∧Below w.heap.size w w':=by
 rw[zno]
 obtain⟨rn,HRN⟩:∃ n,Hid (n=(zaJ t 0).1.number):=⟨_,rfl⟩
 rw[←HRN.out]
 have hB1:Below w.heap.size w (w.alloc (.cells #[.string nm,v] 76)):=(Below.refl _ _).alloc (Nat.le_refl _) _
 have hK1:=Blk.new w [.string nm,v] 76
 obtain⟨g,c,w2,hcv,hb2,hby⟩:=zl5 (w.alloc (.cells #[.string nm,v] 76)) t (by omega)
 have HB2:=hid (hB1.trans (hb2.mono hB1.size))
 have HK2:=hid (hK1.below hb2)
 have HBY:=hid hby
 have HCV:=hid hcv
 have HT:=hid ht
 have H:=hid h
 obtain⟨hlen,a,c',rfl,-⟩:=h.open
 have hST:zb3 t= .string ⟨t.toArray⟩:=rfl
 rw[hST]
 clear hST h hB1 hK1 hb2 hby hcv ht
 obtain⟨tn,HTN⟩:∃ n,Hid (n=t.length):=⟨_,rfl⟩
 rw[←HTN.out] at HCV HBY
 have hcv:=HCV.out
 go_enter Tryz.func96,Tryz.ntmps96
 go_wp2_with fail
 refine (zl6 HBY.out HT.out).mono ?_
 rintro e w3 ⟨sa,sn,sc,at',cd,rfl,hcd,hb3,hcase⟩
 have HK3:=hid (HK2.out.below hb3)
 have HB3:=hid (HB2.out.trans (hb3.mono HB2.out.size))
 clear hb3 hcv HCV HBY
 have hzl:w.heap.size<w3.heap.size:=HK3.out.lt
 have z0:=HK3.out.cell 0 _ rfl
 have z1:=HK3.out.cell 1 _ rfl
 rcases hcase with ⟨ho,rfl,rfl,b,o,rfl,hc⟩|⟨ho,hcase⟩
 ·
  have HO:Hid (decide (ze6 t)=true):=decide_eq_true ho
  have hbl:b<w3.heap.size:=World.block_lt_of_cell? w3 _ hc
  have hix:∀ W:World,(Instr.indexAt 230 (.slice (some ⟨b,o,none⟩) 1 sc) (.int .i64 0)).run Tryz.prog W= .ok (.pointer (some ⟨b,o,none⟩)) W:=fun W=>by
   have:=zau Tryz.underlying230 zsl (a:=some ⟨b,o,none⟩) rfl 0 (len:=1) (by decide) (cap:=sc) W
   simpa using this
  rw[←HRN.out] at hc
  clear ho
  have k0:w3.drew.cell? ⟨w.heap.size,0,none⟩=some (.string nm)∧w3.drew.cell? ⟨w.heap.size,1,none⟩=some (.slice a fs.length c')∧w3.drew.cell? ⟨b,o,none⟩=some (.int .i64 rn):=⟨z0,z1,hc⟩
  obtain⟨x1,x2,HX2,HBN⟩:∃ (x1:Int) (x2:Bool),Hid (x2=decide (0≤zae fs rn))∧Hid (Calls Tryz.prog 67 #[.agg #[.string nm,.slice a fs.length c'],.int .i64 rn] w3.drew fun e w'=>e= .returned (.tuple #[.int .i64 x1,.bool x2])∧Below w3.drew.heap.size w3.drew w'):=⟨_,_,rfl,zdu (H.out.below HB3.out.drew) nm rn⟩
  go_wp2_with fail
  go_region_held3 (fun w'=>w'.cell? ⟨w.heap.size,0,none⟩=some (.string nm)∧w'.cell? ⟨w.heap.size,1,none⟩=some (.slice a fs.length c')∧w'.cell? ⟨b,o,none⟩=some (.int .i64 rn)) (first|(with_reducible exact k0)|(with_reducible exact k1)|go_keep) (first|(go_at_call 67;(with_reducible refine (HBN.out).mono ?_);rintro e w4 ⟨rfl,hb4⟩;have k1:w4.cell? ⟨w.heap.size,0,none⟩=some (.string nm)∧w4.cell? ⟨w.heap.size,1,none⟩=some (.slice a fs.length c')∧w4.cell? ⟨b,o,none⟩=some (.int .i64 rn):=⟨zaa hb4 _ _ k0.1,zaa hb4 _ _ k0.2.1,zaa hb4 _ _ k0.2.2⟩))
  go_wp2_with fail
  go_ret
  exact⟨by rw[HO.out,←HX2.out];rfl,HB3.out.trans (((Below.refl w3.heap.size w3).drew.trans hb4).mono HB3.out.size)⟩
 ·
  have HO:Hid (decide (ze6 t)=false):=decide_eq_false ho
  clear ho
  rcases hcase with hcase|hcase
  ·
   go_wp2_with fail
   go_ret
   exact⟨by rw[HO.out];rfl,HB3.out⟩
  ·
   by_cases h0:cd=0
   ·
    subst h0
    go_wp2_with fail
    go_ret
    exact⟨by rw[HO.out];rfl,HB3.out⟩
   ·
    go_wp2_with fail
    go_ret
    exact⟨by rw[HO.out];rfl,HB3.out⟩
end
section
open Go.RowKit
structure VW where
 r:Rec
 k:Int
 run:Bool
def VW.cells (x:VW):List Value:=zdh x.r x.k x.run
def zaB (fs:List Fld)(l:List UInt8):Nat→Nat→List VW × Nat × Nat
 | 0,_=>([],0,0)
 | n+1,i =>
  if l.length≤i then ([],0,0) else
  if (zao fs l i).2.2.2≠0 then ([],i,(zao fs l i).2.2.2) else
  let x:=zaB fs l n (zao fs l i).1.to
  if x.2.2≠0 then ([],x.2.1,x.2.2) else (⟨(zao fs l i).1,(zao fs l i).2.1,(zao fs l i).2.2.1⟩::x.1,0,0)
def zbA (fs:List Fld)(l:List UInt8):List VW × Nat × Nat:=zaB fs l l.length 0
def zhP (pre:List VW)(x:List VW × Nat × Nat):List VW × Nat × Nat:=if x.2.2≠0 then ([],x.2.1,x.2.2) else (pre++x.1,0,0)
theorem znp (fs:List Fld)(l:List UInt8):∀ n i,(zaB fs l n i).2.2≠0→(zaB fs l n i).1=[]
 | 0,_,h=>by simp[zaB] at h
 | n+1,i,h=>by
  rw[zaB] at h ⊢
  split
  ·
   rfl
  ·
   split
   ·
    rfl
   ·
    simp only
    split
    ·
     rfl
    ·
     rename_i h1 h2 h3
     rw[if_neg h1,if_neg h2] at h
     simp only at h
     rw[if_neg h3] at h
     exact absurd rfl h
theorem zl7 (fs:List Fld)(l:List UInt8):∀ n i,(zaB fs l n i).2.2=0→(zaB fs l n i).2.1=0
 | 0,_,_=>rfl
 | n+1,i,h=>by
  rw[zaB] at h ⊢
  split
  ·
   rfl
  ·
   split
   ·
    rename_i h1 h2
    rw[if_neg h1,if_pos h2] at h
    exact absurd h h2
   ·
    simp only
    split
    ·
     rename_i h1 h2 h3
     rw[if_neg h1,if_neg h2] at h
     simp only at h
     rw[if_pos h3] at h
     exact absurd h h3
    ·
     rfl
theorem zqM (fs:List Fld)(l:List UInt8)(n i:Nat):zhP [] (zaB fs l n i)=zaB fs l n i:=by
 unfold zhP
 split
 ·
  rename_i h
  have:=znp fs l n i h
  rw[←this]
 ·
  rename_i h
  have h':(zaB fs l n i).2.2=0:=by omega
  have:=zl7 fs l n i h'
  rw[List.nil_append]
  generalize zaB fs l n i=x at *
  obtain⟨a,b,c⟩:=x
  simp only at *
  subst h'
  subst this
  rfl
theorem zk5 {fs:List Fld}{l:List UInt8}{i:Nat}(h:(zao fs l i).2.2.2=0):i<l.length∧i<(zao fs l i).1.to∧(zao fs l i).1.to≤l.length∧(zaJ l i).2=0∧(zao fs l i).1=(zaJ l i).1:=by
 have hr:(zaJ l i).2=0:=by
  refine Decidable.byContradiction fun hn=>?_
  unfold zao at h
  rw[if_pos hn] at h
  exact hn h
 have hv:(zao fs l i).1=(zaJ l i).1:=by
  unfold zao at h ⊢
  rw[if_neg (by omega)] at h ⊢
  split
  ·
   rfl
  ·
   rename_i h1
   rw[if_neg h1] at h
   simp only at h ⊢
   split
   ·
    rfl
   ·
    rename_i h2
    rw[if_neg h2] at h
    split
    ·
     rename_i h3
     rw[if_pos h3] at h
     simp at h
    ·
     rfl
 have:=zk3 hr
 rw[hv]
 exact⟨this.1,this.2.1,this.2.2,hr,rfl⟩
theorem zpi {fs:List Fld}{l:List UInt8}{n i:Nat}{pre:List VW}{r:Rec}{k:Int}{run:Bool}(hi:i<l.length)(h:zao fs l i=(r,k,run,0)) :
  zhP pre (zaB fs l (n+1) i)=zhP (pre++[⟨r,k,run⟩]) (zaB fs l n r.to):=by
 rw[zaB,if_neg (by omega),h]
 simp only[ne_eq,not_true_eq_false,if_false]
 unfold zhP
 by_cases hx:(zaB fs l n r.to).2.2=0
 ·
  simp[hx]
 ·
  simp[hx]
theorem zqN {fs:List Fld}{l:List UInt8}{n i:Nat}{pre:List VW}{c:Nat}(hi:i<l.length)(h:(zao fs l i).2.2.2=c)(hc:c≠0):zhP pre (zaB fs l (n+1) i)=([],i,c):=by
 rw[zaB,if_neg (by omega),if_pos (by rw[h];exact hc),h]
 unfold zhP
 simp[hc]
theorem zqO {fs:List Fld}{l:List UInt8}{n i:Nat}{pre:List VW}(hi:l.length≤i):zhP pre (zaB fs l n i)=(pre,0,0):=by
 cases n with
 | zero=>simp[zaB,zhP]
 | succ n=>rw[zaB,if_pos hi];simp[zhP]
end
section
variable {T:Type} {R:T→T→Prop}
theorem zfp (ht:∀ x y z,R x y→R y z→R x z){L Q:List T}(hL:L.Pairwise R)(hQ:Q.Pairwise R)(h:L=[]∨Q=[]∨∃ x y,L.getLast?=some x∧Q.head?=some y∧R x y):∀ a∈L,∀ b∈Q,R a b:=by
 intro a ha b hb
 rcases h with rfl|rfl|⟨x,y,hx,hy,hxy⟩
 ·
  cases ha
 ·
  cases hb
 ·
  have h1:a=x∨R a x:=by
   obtain⟨L',rfl⟩:=List.getLast?_eq_some_iff.1 hx
   rcases List.mem_append.1 ha with h|h
   ·
    exact .inr ((List.pairwise_append.1 hL).2.2 a h x (by simp))
   ·
    exact .inl (by simpa using h)
  have h2:b=y∨R y b:=by
   obtain⟨Q',rfl⟩:=List.head?_eq_some_iff.1 hy
   rcases List.mem_cons.1 hb with h|h
   ·
    exact .inl h
   ·
    exact .inr ((List.pairwise_cons.1 hQ).1 b h)
  rcases h1 with rfl|h1
  ·
   rcases h2 with rfl|h2
   ·
    exact hxy
   ·
    exact ht _ _ _ hxy h2
  ·
   rcases h2 with rfl|h2
   ·
    exact ht _ _ _ h1 hxy
   ·
    exact ht _ _ _ (ht _ _ _ h1 hxy) h2
theorem zpj (ht:∀ x y z,R x y→R y z→R x z){L1 L2 Q1 Q2 Z1 Z2:List T}(hL:(L1++L2).Pairwise R)(hQ:(Q1++Q2).Pairwise R)
  (h1:L1=[]∨Q2=[]∨∃ x y,L1.getLast?=some x∧Q2.head?=some y∧R x y) (h2:Q1=[]∨L2=[]∨∃ x y,Q1.getLast?=some x∧L2.head?=some y∧R x y)
  (hz1:Z1.Perm (L1++Q1)) (s1:Z1.Pairwise R) (hz2:Z2.Perm (L2++Q2)) (s2:Z2.Pairwise R):(Z1++Z2).Pairwise R∧(Z1++Z2).Perm ((L1++L2)++(Q1++Q2)):=by
 obtain⟨hl1,hl2,hl⟩:=List.pairwise_append.1 hL
 obtain⟨hq1,hq2,hq⟩:=List.pairwise_append.1 hQ
 have k1:=zfp ht hl1 hq2 h1
 have k2:=zfp ht hq1 hl2 h2
 constructor
 ·
  rw[List.pairwise_append]
  refine⟨s1,s2,fun a ha b hb=>?_⟩
  rcases List.mem_append.1 (hz1.mem_iff.1 ha) with ha|ha <;> rcases List.mem_append.1 (hz2.mem_iff.1 hb) with hb|hb
  ·
   exact hl a ha b hb
  ·
   exact k1 a ha b hb
  ·
   exact k2 a ha b hb
  ·
   exact hq a ha b hb
 ·
  refine (hz1.append hz2).trans ?_
  have e:((L1++Q1)++(L2++Q2)).Perm (L1++(L2++(Q1++Q2))):=by
   rw[List.append_assoc]
   refine List.Perm.append_left L1 ?_
   rw[←List.append_assoc,←List.append_assoc]
   exact List.Perm.append_right Q2 List.perm_append_comm
  rw[List.append_assoc L1 L2]
  exact e
theorem zfq (ht:∀ x y z,R x y→R y z→R x z){Q:List T}{x:T}(hQ:Q.Pairwise R)(i:Nat)(h1:i=0∨∃ y,Q[i - 1]?=some y∧R y x)(h2:Q.length≤i∨∃ y,Q[i]?=some y∧R x y) :
  (Q.take i++x::Q.drop i).Pairwise R:=by
 have hQ':=hQ
 rw[←List.take_append_drop i Q] at hQ'
 obtain⟨q1,q2,q⟩:=List.pairwise_append.1 hQ'
 have k1:∀ a∈Q.take i,R a x:=by
  intro a ha
  refine zfp ht q1 (List.pairwise_singleton R x) ?_ a ha x (by simp)
  rcases h1 with rfl|⟨y,hy,hyx⟩
  ·
   exact .inl rfl
  ·
   refine .inr (.inr ⟨y,x,?_,rfl,hyx⟩)
   have hl:i - 1<Q.length:=(List.getElem?_eq_some_iff.1 hy).1
   by_cases hi:i=0
   ·
    subst hi;simp at ha
   ·
    rw[List.getLast?_eq_getElem?,List.length_take,Nat.min_eq_left (by omega),List.getElem?_take,if_pos (by omega)]
    exact hy
 have k2:∀ a∈Q.drop i,R x a:=by
  intro a ha
  refine zfp ht (List.pairwise_singleton R x) q2 ?_ x (by simp) a ha
  rcases h2 with h2|⟨y,hy,hxy⟩
  ·
   exact .inr (.inl (List.drop_eq_nil_of_le h2))
  ·
   refine .inr (.inr ⟨x,y,rfl,?_,hxy⟩)
   rw[List.head?_drop];exact hy
 rw[List.pairwise_append,List.pairwise_cons]
 exact⟨q1,⟨k2,q2⟩,fun a ha b hb=>by
  rcases List.mem_cons.1 hb with rfl|hb
  ·
   exact k1 a ha
  ·
   exact q a ha b hb⟩
theorem zes {Q:List T}(x:T)(i:Nat):(Q.take i++x::Q.drop i).Perm (x::Q):=by
 refine List.perm_middle.trans ?_
 rw[List.take_append_drop]
theorem zg2 (ha:∀ x y,R x y→¬ R y x){l m:List T}(hl:l.Pairwise R)(hm:m.Pairwise R)(h:l.Perm m):l=m:=by
 induction l generalizing m with
 | nil=>exact (List.Perm.nil_eq h)
 | cons x r ih =>
  cases m with
  | nil=>exact absurd h.length_eq (by simp)
  | cons y s =>
   obtain⟨hl1,hl2⟩:=List.pairwise_cons.1 hl
   obtain⟨hm1,hm2⟩:=List.pairwise_cons.1 hm
   have e:x=y:=by
    have h1:x∈y::s:=h.mem_iff.1 (by simp)
    have h2:y∈x::r:=h.mem_iff.2 (by simp)
    rcases List.mem_cons.1 h1 with h1|h1
    ·
     exact h1
    ·
     rcases List.mem_cons.1 h2 with h2|h2
     ·
      exact h2.symm
     ·
      exact absurd (hm1 x h1) (ha _ _ (hl1 y h2))
   subst e
   rw[ih hl2 hm2 ((List.perm_cons x).1 h)]
end
section
def zdc (fs:List Fld)(i:Int):Int:=(fs.getD i.toNat .zero).number
def zck (fs:List Fld)(i j:Int):Prop:=zdc fs i<zdc fs j∨zdc fs i=zdc fs j∧i<j
theorem zck.trans {fs:List Fld}(x y z:Int)(h:zck fs x y)(h2:zck fs y z):zck fs x z:=by unfold zck at *;omega
theorem zck.asymm {fs:List Fld}(x y:Int)(h:zck fs x y):¬ zck fs y x:=by unfold zck at *;omega
def zos (n:Nat):List Int:=(List.range n).map fun k:Nat=>(k:Int)
theorem zit (n:Nat):zos (n+1)=zos n++[(n:Int)]:=by unfold zos;rw[List.range_succ,List.map_append];rfl
theorem zet (n:Nat):(zos n).length=n:=by simp[zos]
theorem zeu {n:Nat}{x:Int}:x∈zos n↔0≤x∧x<n:=by
 unfold zos
 rw[List.mem_map]
 constructor
 ·
  rintro⟨k,hk,rfl⟩
  have:=List.mem_range.1 hk
  omega
 ·
  intro h
  exact⟨x.toNat,List.mem_range.2 (by omega),by omega⟩
def zsm (fs:List Fld)(i:Int)(o:List Int):Nat:=(o.takeWhile fun u=>decide (zdc fs u≤zdc fs i)).length
def insF (fs:List Fld)(i:Int)(o:List Int):List Int:=o.take (zsm fs i o)++i::o.drop (zsm fs i o)
def zgt (fs:List Fld):Nat→List Int
 | 0=>[]
 | n+1=>insF fs (n:Int) (zgt fs n)
def zaq (fs:List Fld):List Int:=zgt fs fs.length
theorem zqP (fs:List Fld)(i:Int)(o:List Int):(∀ k,k<zsm fs i o→∃ u,o[k]?=some u∧zdc fs u≤zdc fs i)∧(∀ u,o[zsm fs i o]?=some u→zdc fs i<zdc fs u):=by
 unfold zsm
 induction o with
 | nil=>simp
 | cons u r ih =>
  rw[List.takeWhile_cons]
  by_cases h:zdc fs u≤zdc fs i
  ·
   simp only[decide_eq_true h,if_true,List.length_cons]
   refine⟨fun k hk=>?_,fun v hv=>ih.2 v (by simpa using hv)⟩
   cases k with
   | zero=>exact⟨u,rfl,h⟩
   | succ k=>simpa using ih.1 k (by omega)
  ·
   simp only[decide_eq_false h,Bool.false_eq_true,if_false,List.length_nil]
   refine⟨fun k hk=>by omega,fun v hv=>?_⟩
   simp at hv
   subst hv
   omega
theorem zbD (fs:List Fld):∀ n,(zgt fs n).Perm (zos n)∧(zgt fs n).Pairwise (zck fs)
 | 0=>⟨List.Perm.refl _,List.Pairwise.nil⟩
 | n+1=>by
  obtain⟨h1,h2⟩:=zbD fs n
  obtain⟨h3,h4⟩:=zqP fs (n:Int) (zgt fs n)
  have hm:∀ u∈zgt fs n,u<(n:Int):=fun u hu=>(zeu.1 (h1.mem_iff.1 hu)).2
  rw[zgt,zit]
  refine⟨?_,?_⟩
  ·
   exact (zes _ _).trans ((List.Perm.cons _ h1).trans (List.perm_append_singleton _ _).symm)
  ·
   refine zfq zck.trans h2 _ ?_ ?_
   ·
    by_cases h0:zsm fs n (zgt fs n)=0
    ·
     exact .inl h0
    ·
     obtain⟨u,hu,hle⟩:=h3 (zsm fs n (zgt fs n) - 1) (by omega)
     refine .inr ⟨u,hu,?_⟩
     have:=hm u (List.mem_of_getElem? hu)
     unfold zck
     omega
   ·
    by_cases hl:(zgt fs n).length≤zsm fs n (zgt fs n)
    ·
     exact .inl hl
    ·
     have hu:=List.getElem?_eq_getElem (l:=zgt fs n) (i:=zsm fs n (zgt fs n)) (by omega)
     exact .inr ⟨_,hu,.inl (h4 _ hu)⟩
theorem zqQ (fs:List Fld)(n:Nat):(zgt fs n).length=n:=by rw[(zbD fs n).1.length_eq,zet]
theorem za5 (fs:List Fld):(zaq fs).length=fs.length:=zqQ fs _
theorem zaH {fs:List Fld}{x:Int}(h:x∈zaq fs):0≤x∧x<fs.length:=zeu.1 ((zbD fs _).1.mem_iff.1 h)
theorem zjw {fs:List Fld}{Z:List Int}(h:Z.Perm (zos fs.length))(hs:Z.Pairwise (zck fs)):Z=zaq fs:=
 zg2 zck.asymm hs (zbD fs _).2 (h.trans (zbD fs _).1.symm)
theorem znq (_fs:List Fld)(n:Nat):(zos n).Pairwise fun i j=>i<j:=by
 induction n with
 | zero=>exact List.Pairwise.nil
 | succ n ih =>
  rw[zit,List.pairwise_append]
  refine⟨ih,List.pairwise_singleton _ _,fun a ha b hb=>?_⟩
  have:=zeu.1 ha
  simp at hb
  omega
end
section
open Go.RowKit
def zdw:List UInt8→Nat
 | []=>0
 | c::r=>c.toNat+256*zdw r
def zeL (l:List UInt8):Nat:=zdw (l.take 8)
theorem zpk (l:List UInt8)(c:UInt8):zdw (l++[c])=zdw l+c.toNat*256 ^ l.length:=by
 induction l with
 | nil=>simp[zdw]
 | cons x r ih =>
  rw[List.cons_append,zdw,ih,zdw,List.length_cons,Nat.pow_succ,Nat.mul_add]
  have:c.toNat*(256 ^ r.length*256)=256*(c.toNat*256 ^ r.length):=by
   rw[←Nat.mul_assoc,Nat.mul_comm]
  omega
theorem zk6 (l:List UInt8):zdw l<256 ^ l.length:=by
 induction l with
 | nil=>simp[zdw]
 | cons x r ih =>
  have:=UInt8.toNat_lt x
  rw[zdw,List.length_cons,Nat.pow_succ]
  omega
theorem zqR (l:List UInt8):zeL l<18446744073709551616:=by
 have h1:=zk6 (l.take 8)
 have h2:(256:Nat) ^ (l.take 8).length≤256 ^ 8:=Nat.pow_le_pow_right (by decide) (List.length_take_le _ _)
 have h3:(256:Nat) ^ 8=18446744073709551616:=by decide
 unfold zeL
 omega
theorem zqS (acc k c:Nat)(ha:acc<256 ^ k)(hk:k≤7)(hc:c<256) :
  bits .or .u64 (acc:Int) (IntKind.u64.wrap (IntKind.u64.wrap (c:Int)*2 ^ (8*k)))=((acc+c*256 ^ k:Nat):Int):=by
 have e2:(2:Int) ^ (8*k)=((256 ^ k:Nat):Int):=by
  rw[Int.pow_mul];simp
 have h2:(256:Nat) ^ (k+1)≤256 ^ 8:=Nat.pow_le_pow_right (by omega) (by omega)
 have e8:(256:Nat) ^ 8=2 ^ 64:=by decide
 have h1:c*256 ^ k≤255*256 ^ k:=Nat.mul_le_mul_right _ (by omega)
 rw[Nat.pow_succ] at h2
 have e3:IntKind.u64.wrap (c:Int)=(c:Int):=by
  rw[IntKind.wrap_u64];omega
 have e4:IntKind.u64.wrap ((c:Int)*((256 ^ k:Nat):Int))=((c*256 ^ k:Nat):Int):=by
  rw[IntKind.wrap_u64,←Int.natCast_mul];omega
 rw[e3,e2,e4,bits_or_u64_nat _ _ (by omega) (by omega)]
 congr 1
 have:=Nat.two_pow_add_eq_or_of_lt (i:=8*k) (b:=acc) (by rw[Nat.pow_mul];exact ha) c
 rw[Nat.or_comm,Nat.add_comm,Nat.mul_comm c]
 rw[Nat.pow_mul] at this
 exact this.symm
theorem zjZ (l:List UInt8)(i:Nat)(h:i<l.length):zdw (l.take (i+1))=zdw (l.take i)+(l.getD i 0).toNat*256 ^ i:=by
 rw[List.take_succ_eq_append_getElem h,zpk,List.length_take,Nat.min_eq_left (by omega),List.getD_eq_getElem?_getD,List.getElem?_eq_getElem h]
 rfl
theorem zqT {w:World}{v:Value}{l:List UInt8}(h:zal w v l) :
  Calls Tryz.prog 185 #[v] w fun e w'=>e= .returned (.int .u64 (zeL l:Nat))∧w=w':=by
 obtain⟨hlen,a,cap,rfl,-,-,hnil,-⟩:=h.open
 obtain⟨n,HN⟩:∃ n,Hid (n=l.length):=⟨_,rfl⟩
 rw[←HN.out] at hlen h ⊢
 obtain⟨k,HK⟩:∃ k,Hid (k=min n 8):=⟨_,rfl⟩
 have hk8:k≤8:=by rw[HK.out];omega
 have hkn:k≤n:=by rw[HK.out];omega
 obtain⟨v2,hr,hb⟩:=h.h HN.out k hkn
 have HB:=hid hb
 obtain⟨-,a2,cap2,rfl,-,-,-,hat⟩:=hb.open
 have hl2:(l.take k).length=k:=by rw[List.length_take];have:=HN.out;omega
 rw[hl2] at hr hat
 have HAT:=hid hat
 have HW:Hid (zeL l=zdw (l.take k)):=by
  show zdw (l.take 8)=_
  rw[HK.out]
  by_cases h8:n≤8
  ·
   rw[Nat.min_eq_left h8,List.take_of_length_le (by rw[←HN.out];exact h8),List.take_of_length_le (by rw[←HN.out];omega)]
  ·
   rw[Nat.min_eq_right (by omega)]
 clear h hb hat hnil
 by_cases h8:n≤8
 ·
  obtain rfl:k=n:=by rw[HK.out];omega
  go_enter Tryz.func185,Tryz.ntmps185
  go_wp2_with fail
  go_loopw [3,12] (fun v3 v12 wr=>∃ i x:Nat,v12= .int .i64 (i:Int)∧v3= .int .u64 (x:Int)∧i≤k∧w=wr∧Hid (x=zdw ((l.take k).take i))) (fun _ v12 _=>k - (intOf v12).toNat)
  case atStart=>exact⟨0,0,rfl,rfl,by omega,rfl,rfl⟩
  case round =>
   obtain⟨i,x,rfl,rfl,hi,rfl,HV⟩:=hrel
   by_cases hlt:i<k
   ·
    obtain⟨b,o,ha,g0⟩:=HAT.out i hlt
    have hix:=zaj zaG zda ha i hlt (cap:=cap2)
    obtain⟨c,HC⟩:∃ c,Hid (c=(l.take k).getD i 0):=⟨_,rfl⟩
    rw[←HC.out] at g0
    have HE:Hid (bits .or .u64 (x:Int) (IntKind.u64.wrap (IntKind.u64.wrap (c.toNat:Int)*2 ^ (8*i)))=((zdw ((l.take k).take (i+1)):Nat):Int)):=by
     have h1:=zk6 ((l.take k).take i)
     rw[List.length_take,hl2,Nat.min_eq_left (by omega)] at h1
     rw[Hid,zqS x i c.toNat (by rw[HV.out];exact h1) (by omega) (UInt8.toNat_lt c),zjZ _ _ (by rw[hl2];exact hlt),←HV.out,←HC.out]
    clear ha
    go_wp2_with fail
    go_roundw
    case rel=>exact⟨i+1,zdw ((l.take k).take (i+1)),by go_num,by rw[HE.out],hlt,by first|rfl|trivial,rfl⟩
    case measure=>simp[intOf];omega
   ·
    obtain rfl:i=k:=by omega
    have HE:Hid (x=zeL l):=by rw[Hid,HV.out,HW.out,List.take_of_length_le (by rw[hl2];omega)]
    go_wp2_with fail
    go_ret
    exact⟨by rw[HE.out];first|done|rfl,rfl⟩
 ·
  obtain rfl:k=8:=by rw[HK.out];omega
  have hr8:∀ W,(Instr.slice 47 (.slice a n cap) none (some (.int .i64 8)) none).run Tryz.prog W= .ok (.slice a2 8 cap2) W:=hr
  clear hr
  go_enter Tryz.func185,Tryz.ntmps185
  go_wp2_with fail
  go_loopw [3,12] (fun v3 v12 wr=>∃ i x:Nat,v12= .int .i64 (i:Int)∧v3= .int .u64 (x:Int)∧i≤8∧w=wr∧Hid (x=zdw ((l.take 8).take i))) (fun _ v12 _=>8 - (intOf v12).toNat)
  case atStart=>exact⟨0,0,rfl,rfl,by omega,rfl,rfl⟩
  case round =>
   obtain⟨i,x,rfl,rfl,hi,rfl,HV⟩:=hrel
   by_cases hlt:i<8
   ·
    obtain⟨b,o,ha,g0⟩:=HAT.out i hlt
    have hix:=zaj zaG zda ha i hlt (cap:=cap2)
    obtain⟨c,HC⟩:∃ c,Hid (c=(l.take 8).getD i 0):=⟨_,rfl⟩
    rw[←HC.out] at g0
    have HE:Hid (bits .or .u64 (x:Int) (IntKind.u64.wrap (IntKind.u64.wrap (c.toNat:Int)*2 ^ (8*i)))=((zdw ((l.take 8).take (i+1)):Nat):Int)):=by
     have h1:=zk6 ((l.take 8).take i)
     rw[List.length_take,hl2,Nat.min_eq_left (by omega)] at h1
     rw[Hid,zqS x i c.toNat (by rw[HV.out];exact h1) (by omega) (UInt8.toNat_lt c),zjZ _ _ (by rw[hl2];exact hlt),←HV.out,←HC.out]
    clear ha
    go_wp2_with fail
    go_roundw
    case rel=>exact⟨i+1,zdw ((l.take 8).take (i+1)),by go_num,by rw[HE.out],hlt,by first|rfl|trivial,rfl⟩
    case measure=>simp[intOf];omega
   ·
    obtain rfl:i=8:=by omega
    have HE:Hid (x=zeL l):=by rw[Hid,HV.out,HW.out,List.take_of_length_le (by rw[hl2];omega)]
    go_wp2_with fail
    go_ret
    exact⟨by rw[HE.out];first|done|rfl,rfl⟩
end
end Go.Proofs.YtpckoeicbjfnhaaGreatDoor
