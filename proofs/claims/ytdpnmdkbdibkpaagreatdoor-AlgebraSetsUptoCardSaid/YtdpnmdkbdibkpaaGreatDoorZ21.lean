/- Parts of a proof: texts of the author, merged. No condition of their own. -/
import Derived.Test.YtdpnmdkbdibkpaaGreatDoorZ01
import Derived.Test.YtdpnmdkbdibkpaaGreatDoorZ03
import Derived.Test.YtdpnmdkbdibkpaaGreatDoorZ06
import Derived.Test.YtdpnmdkbdibkpaaGreatDoorZ07
import Derived.Test.YtdpnmdkbdibkpaaGreatDoorZ13
import Derived.Test.YtdpnmdkbdibkpaaGreatDoorZ15
import Derived.Test.YtdpnmdkbdibkpaaGreatDoorZ20
import Derived.Laws.IdiomStrings
import Derived.Laws.AppendOwn
namespace Go.Proofs.YtdpnmdkbdibkpaaGreatDoor
set_option maxRecDepth 100000
set_option maxHeartbeats 16000000
section
open Go.RowKit
theorem zn4:Tryz.prog.underlying 9=some .string:=Tryz.underlying9
theorem zpc:Tryz.prog.underlying 5=some (.int .u8):=Tryz.underlying5
theorem zfh (w:World)(t:List UInt8)(ht:t.length≤140737488355328) :
  ∃ g c w',(convert 9 88 (.string ⟨t.toArray⟩)).run Tryz.prog w= .ok (.slice (some ⟨g,0,none⟩) t.length c) w'∧Below w.heap.size w w'∧zay w' (.slice (some ⟨g,0,none⟩) t.length c) t:=by
 have h:=run_bytes_of_string (P:=Tryz.prog) w 9 88 5 ⟨t.toArray⟩ zn4 zaH zpc
 have hsz:(⟨t.toArray⟩:ByteArray).size=t.length:=by simp[ByteArray.size]
 rw[hsz] at h
 refine⟨_,_,_,h,((Below.refl w.heap.size w).drew).alloc (Nat.le_refl _) _,by simp,ht,_,_,rfl,grownCap_ge _ _ _ _,?_,by simp,?_⟩
 ·
  have:=grownCap_le_maxLen w t.length 0 5 (by unfold maxLen;omega)
  unfold maxLen at this;omega
 ·
  intro j u hu
  refine⟨_,_,rfl,?_⟩
  rw[Nat.zero_add,List.getElem?_map] at *
  have hj:j<t.length:=by
   rcases Nat.lt_or_ge j t.length with h|h
   ·
    exact h
   ·
    rw[List.getElem?_eq_none h] at hu;simp at hu
  have hb:=bytesRow_at ⟨t.toArray⟩ (grownCap w t.length 0 5) j (by simpa using hj)
  rw[List.getElem?_eq_getElem hj] at hu
  simp only[Option.map_some,Option.some.injEq] at hu
  subst hu
  rw[show w.heap.size=w.drew.heap.size from rfl,cell_of_row _ _ _ _ _ _ (heap_alloc_new w.drew _)]
  rw[hb]
  simp[zgz]
theorem zam.step2 {α:Type}{P:World→List Value→α→Prop}{T:TypeId}{k n0 base i:Nat}{wr w1:World}{oa:Option Addr}{oc:Nat}{l:List α}(h:zam P T k n0 base wr (.slice oa i oc) l)(hb:Below wr.heap.size wr w1)(hk:0<k)(hn0:n0≤base)(hbs:base≤wr.heap.size)(hil:l.length=i)
  {G:Program} (t:TypeId) (z:Value) (bytes:Nat) (ht:G.underlying t=some (.slice T)) (hinfo:(G.info? T).map (fun i=>(i.zero,i.size,i.bytes))=some (some z,k,bytes)) (hzs:z.cells.size=k)
  (cells:Array Value) (hr:cells.size=k) (h1:∀ u∈cells.toList,u.oneCell'=true) (x:α) (hP:zap n0 wr.heap.size w1 fun w'=>P w' cells.toList x) (hlen:i≤1099511627776) (hby:bytes≤120) :
  ∃ a' c' w5,(Builtin.append_ #[t,t] t #[.slice oa i oc,.slice (some ⟨w1.heap.size,0,none⟩) 1 1]).run G (w1.alloc (.cells cells T))= .ok (.slice a' (i+1) c') w5∧zam P T k n0 base w5 (.slice a' (i+1) c') (l++[x]) ∧
   Below base wr (w1.alloc (.cells cells T))∧Below base wr w5∧∀ b,wr.heap.size≤b→b<w1.heap.size→w5.heap[b]?=w1.heap[b]?:=by
 have hs:=hb.size
 have hB1:Below base wr (w1.alloc (.cells cells T)):=(hb.mono hbs).alloc (by omega) _
 obtain⟨v',w',hrun,hO,hg,-⟩:=(h.below hb).append hk hn0 t z bytes ht hinfo hzs cells hr h1 x wr.heap.size (fun b e=>(h.own b e).2) hbs hP (by omega) hby (by omega)
 obtain⟨a',c',rfl⟩:=hO.form
 rw[List.length_append,List.length_singleton,hil] at *
 refine⟨a',c',w',hrun,hO,hB1,hB1.grown hg (by have:=hB1.size;omega) fun q e=>(h.own q e).1,fun b h1 h2=>?_⟩
 refine (hg.block b (by simp;omega) (fun e=>?_)).trans (Below.heap_alloc w1 _ b h2)
 have:=(h.own b e.symm).2
 omega
def recP (_:World)(r:List Value)(x:Rec):Prop:=r=recL x
def zel (l:List UInt8):Prop:=(zbE l 0).2=0∧(zbE l 0).1.to=l.length
instance (l:List UInt8):Decidable (zel l):=by unfold zel;infer_instance
theorem zlG {l:List UInt8}{i:Nat}(h:(zbE l i).2=0):i<l.length∧i<(zbE l i).1.to∧(zbE l i).1.to≤l.length:=by
 rcases zdC l i with ⟨h1,h2⟩|⟨h1,c,-,h2,h3⟩|⟨h1,k,x,n,-,h2,h3,h4,h5,h6,h7,⟨a,m,c,-,g1,g2,g3,g4⟩|⟨a,m,-,g1,g2,g3,g4,g5⟩|⟨a,m,-,g1,g2,g3,g4⟩⟩
 ·
  rw[h2] at h;simp at h
 ·
  rw[h3] at h;simp at h;omega
 ·
  rw[g4] at h;simp at h;omega
 ·
  rw[g5] at h;simp at h
 ·
  rw[g4];exact⟨h1,by simp;omega,by simp;omega⟩
theorem zmt (l:List UInt8)(i:Nat):(zbE l i).2<256:=by
 rcases zdC l i with ⟨h1,h2⟩|⟨h1,c,-,h2,h3⟩|⟨h1,k,x,n,-,h2,h3,h4,h5,h6,h7,⟨a,m,c,-,g1,g2,g3,g4⟩|⟨a,m,-,g1,g2,g3,g4,g5⟩|⟨a,m,-,g1,g2,g3,g4⟩⟩
 ·
  rw[h2];decide
 ·
  rw[h3];show c<256;omega
 ·
  rw[g4];show c<256;omega
 ·
  rw[g5];decide
 ·
  rw[g4];show 0<256;decide
theorem zay.below_from {w wr:World}{v:Value}{l:List UInt8}(h:zay w v l)(hb:Below w.heap.size w wr):zay wr v l:=h.below hb
theorem zpd:(Tryz.prog.info? 201).map (fun i=>(i.zero,i.size,i.bytes))=some (some (.agg #[.int .i64 0,.int .i64 0,.int .i64 0,.int .i64 0,.int .i64 0]),5,40):=by kernel_rfl
def zmu (w:World)(l:List UInt8)(e:Ending)(w':World):Prop:=
 ∃ (a:Option Addr) (n c:Nat) (at' cd:Nat),e= .returned (.tuple #[.slice a n c,.int .i64 at',.int .u8 cd])∧cd<256∧Below w.heap.size w w' ∧
  ((zel l∧cd=0∧n=1∧∃ b o,a=some ⟨b,o,none⟩∧w'.cell? ⟨b,o,none⟩=some (.int .i64 (zbE l 0).1.number))∨(¬ zel l∧(cd≠0∨n≠1)))
theorem zj6 {w:World}{v:Value}{l:List UInt8}(h:zay w v l)(hl:l.length≤1099511627776) :
  Calls Tryz.prog 129 #[v] w fun e w'=>zmu w l e w':=by
 have HV:=hid h
 have HLL:=hid hl
 obtain⟨hlen,a,cap,rfl,-,-,-,-⟩:=h.open
 obtain⟨n,HN⟩:∃ n,Hid (n=l.length):=⟨_,rfl⟩
 rw[←HN.out] at HV hlen HLL hl ⊢
 clear h
 go_enter Tryz.func129,Tryz.ntmps129
 go_wp2_with fail
 go_loopw [5,6,7,8] (fun v5 v6 _ _ wr=>∃ (pre:List Rec) (oa:Option Addr) (m oc at':Nat),v5= .slice oa m oc∧v6= .int .i64 at'∧at'≤n∧m≤at'∧Hid (m=pre.length) ∧
   Hid ((pre=[]∧at'=0)∨(pre=[(zbE l 0).1]∧(zbE l 0).2=0∧at'=(zbE l 0).1.to)∨(2≤pre.length∧¬ zel l)) ∧
   Hid (Below w.heap.size w wr∧zam recP 201 5 0 w.heap.size wr (.slice oa m oc) pre)) (fun _ v6 _ _ _=>n - (intOf v6).toNat)
 case atStart=>exact⟨[],none,0,0,0,rfl,rfl,by omega,by omega,rfl,.inl ⟨rfl,rfl⟩,Below.refl _ _,zam.nil _ _ _ _ _ _⟩
 case round =>
  obtain⟨pre,oa,m,oc,at',rfl,rfl,hat,hmat,HM,HS,HI⟩:=hrel
  by_cases hlt:at'<n
  ·
   obtain⟨r,c,HR⟩:∃ r c,Hid (zbE l at'=(r,c)):=⟨_,_,rfl⟩
   have hc256:c<256:=by
    have:=zmt l at'
    rw[HR.out] at this
    exact this
   have HNX:=hid (zkm (HV.out.below_from HI.out.1) at' (by omega))
   rw[HR.out] at HNX
   by_cases hc:c=0
   ·
    subst hc
    have hok:at'<r.to∧r.to≤n:=by
     have:=zlG (l:=l) (i:=at') (by rw[HR.out])
     rw[HR.out,←HN.out] at this
     exact this.2
    have HST:Hid ((pre++[r]=[(zbE l 0).1]∧(zbE l 0).2=0∧r.to=(zbE l 0).1.to)∨(2≤(pre++[r]).length∧¬ zel l)):=by
     rcases HS.out with ⟨rfl,rfl⟩|⟨rfl,h1,rfl⟩|⟨h1,h2⟩
     ·
      exact .inl ⟨by rw[HR.out];rfl,by rw[HR.out],by rw[HR.out]⟩
     ·
      exact .inr ⟨by simp,fun h=>by have:=h.2;have:=HN.out;omega⟩
     ·
      exact .inr ⟨by simp;omega,h2⟩
    go_wp2_with fail
    refine HNX.out.mono ?_
    rintro e w1 ⟨rfl,hb1⟩
    obtain⟨rn,rw',rs,ra,rt⟩:=r
    simp only[Rec.val]
    have hb2:=hb1.alloc hb1.size (.cells #[.int .i64 rn,.int .i64 rw',.int .i64 rs,.int .i64 ra,.int .i64 rt] 201)
    have hk2:=Blk.new w1 [.int .i64 rn,.int .i64 rw',.int .i64 rs,.int .i64 ra,.int .i64 rt] 201
    have hX:wr.heap.size≤w1.heap.size:=hb1.size
    go_wp2_with fail
    generalize hW2:w1.alloc (.cells #[.int .i64 rn,.int .i64 rw',.int .i64 rs,.int .i64 ra,.int .i64 rt] 201)=W2 at *
    clear hW2
    generalize w1.heap.size=X at *
    clear hb1
    obtain⟨a5,c5,w5,hr5,hO5,hB4,hB5,hk5⟩:=zam.step2 HI.out.2 hb2.drew (by decide) (by omega) HI.out.1.size HM.out.symm 198 _ 40 Tryz.underlying198 zpd rfl #[.int .i64 rn,.int .i64 rw',.int .i64 rs,.int .i64 ra,.int .i64 rt] rfl (by intro u hu;simp at hu;rcases hu with rfl|rfl|rfl|rfl|rfl <;> rfl) ⟨rn,rw',rs,ra,rt⟩ (fun _ _=>rfl) (by have:=HLL.out;omega) (by decide)
    have hkd:Blk W2.drew X [.int .i64 rn,.int .i64 rw',.int .i64 rs,.int .i64 ra,.int .i64 rt] 201:=hk2
    have hke:Blk (W2.alloc (.cells #[.int .i64 rn,.int .i64 rw',.int .i64 rs,.int .i64 ra,.int .i64 rt] 201)).drew X [.int .i64 rn,.int .i64 rw',.int .i64 rs,.int .i64 ra,.int .i64 rt] 201:=hkd.alloc (.cells #[.int .i64 rn,.int .i64 rw',.int .i64 rs,.int .i64 ra,.int .i64 rt] 201)
    have hkf:Blk w5 X [.int .i64 rn,.int .i64 rw',.int .i64 rs,.int .i64 ra,.int .i64 rt] 201:=(hk5 X hX hk2.lt).trans hkd
    have k0:W2.drew.cell? ⟨X,0,none⟩=some (.int .i64 rn)∧W2.drew.cell? ⟨X,1,none⟩=some (.int .i64 rw')∧W2.drew.cell? ⟨X,2,none⟩=some (.int .i64 rs)∧W2.drew.cell? ⟨X,3,none⟩=some (.int .i64 ra)∧W2.drew.cell? ⟨X,4,none⟩=some (.int .i64 rt):=⟨hkd.cell 0 _ rfl,hkd.cell 1 _ rfl,hkd.cell 2 _ rfl,hkd.cell 3 _ rfl,hkd.cell 4 _ rfl⟩
    have k1:=And.intro (hke.cell 0 _ rfl) (And.intro (hke.cell 1 _ rfl) (And.intro (hke.cell 2 _ rfl) (And.intro (hke.cell 3 _ rfl) (hke.cell 4 _ rfl))))
    have k3:=And.intro (hkf.cell 0 _ rfl) (And.intro (hkf.cell 1 _ rfl) (And.intro (hkf.cell 2 _ rfl) (And.intro (hkf.cell 3 _ rfl) (hkf.cell 4 _ rfl))))
    have hXl:=hk2.lt
    have HR5:Hid ((Builtin.append_ #[198,198] 198 #[.slice oa m oc,.slice (some ⟨W2.heap.size,0,none⟩) 1 1]).run Tryz.prog (W2.alloc (.cells #[.int .i64 rn,.int .i64 rw',.int .i64 rs,.int .i64 ra,.int .i64 rt] 201)).drew= .ok (.slice a5 (m+1) c5) w5):=hr5
    have HO5:=hid hO5
    have HB5:=hid hB5
    clear hkd hke hkf hr5 hO5 hB4 hB5 hk5 hb2 hk2
    go_region_held3 (fun w'=>w'.cell? ⟨X,0,none⟩=some (.int .i64 rn)∧w'.cell? ⟨X,1,none⟩=some (.int .i64 rw')∧w'.cell? ⟨X,2,none⟩=some (.int .i64 rs)∧w'.cell? ⟨X,3,none⟩=some (.int .i64 ra)∧w'.cell? ⟨X,4,none⟩=some (.int .i64 rt)) (first|(with_reducible exact k0)|(with_reducible exact k1)|(with_reducible exact k3)|go_keep) (first|(refine zaQ rfl (.tmp 23) (.tmp 25) _ rfl _ _ rfl rfl HR5.out ?_))
    go_wp2_with fail
    go_roundw
    case rel=>exact⟨pre++[⟨rn,rw',rs,ra,rt⟩],_,_,_,rt,rfl,rfl,hok.2,by have:=hok.1;omega,by rw[Hid,List.length_append,←HM.out];rfl,.inr HST.out,HB5.out |> fun h=>HI.out.1.trans (h.mono (by omega)),HO5.out⟩
    case measure=>simp[intOf];have:=hok.1;omega
   ·
    have hno:¬ zel l:=by
     rcases HS.out with ⟨rfl,rfl⟩|⟨rfl,h1,rfl⟩|⟨h1,h2⟩
     ·
      exact fun h=>hc (by have:=h.1;rw[HR.out] at this;exact this)
     ·
      exact fun h=>by have:=h.2;have:=HN.out;omega
     ·
      exact h2
    have HNO:=hid hno
    clear hno
    go_wp2_with fail
    refine HNX.out.mono ?_
    rintro e w1 ⟨rfl,hb1⟩
    obtain⟨rn,rw',rs,ra,rt⟩:=r
    simp only[Rec.val]
    go_wp2_with fail
    go_ret3
    exact⟨none,0,0,at',c,rfl,hc256,(HI.out.1.trans (hb1.mono HI.out.1.size)).alloc (by have:=HI.out.1.size;have:=hb1.size;omega) _,.inr ⟨HNO.out,.inl hc⟩⟩
  ·
   obtain rfl:at'=n:=by omega
   go_wp2_with fail
   go_ret3
   refine⟨oa,m,oc,0,0,rfl,by decide,HI.out.1,?_⟩
   rcases HS.out with ⟨rfl,h1⟩|⟨rfl,h1,h2⟩|⟨h1,h2⟩
   ·
    refine .inr ⟨fun h=>?_,.inr (by rw[HM.out];simp)⟩
    have:=(zlG h.1).1
    have:=HN.out
    omega
   ·
    refine .inl ⟨⟨h1,by rw[←h2];exact HN.out⟩,rfl,by rw[HM.out];rfl,?_⟩
    have hR:=HI.out.2.at (by simp) (w':=wr) (fun _ _ _=>rfl)
    obtain⟨-,a',cap',he,-,hat'⟩:=hR.open (by decide)
    cases he
    obtain⟨b,o,r,ha,-,hc,hP⟩:=hat' 0 _ rfl
    refine⟨b,o,ha,?_⟩
    have:=hc 0 _ (by rw[hP];rfl)
    simpa using this
   ·
    exact .inr ⟨h2,.inr (by rw[HM.out];omega)⟩
theorem zkT (fs:List Fld)(t:List UInt8):zaR fs t=(decide (zel t) && !decide (0≤zak fs (zbE t 0).1.number)):=by
 unfold zaR zel
 congr 1
 by_cases h:0≤zak fs (zbE t 0).1.number
 ·
  rw[decide_eq_false (by omega),decide_eq_true h];rfl
 ·
  rw[decide_eq_true (by omega),decide_eq_false h];rfl
theorem zpe (w:World):(sizeOf 201).run Tryz.prog w= .ok 5 w:=by kernel_rfl
theorem ziV {w:World}{v:Value}{fs:List Fld}(h:za4 w v fs)(nm:ByteArray)(t:List UInt8)(ht:t.length≤1099511627776) :
  Calls Tryz.prog 95 #[.agg #[.string nm,v],zbA t] w fun e w'=>e= .returned (.bool (zaR fs t))∧Below w.heap.size w w':=by
 rw[zkT]
 obtain⟨rn,HRN⟩:∃ n,Hid (n=(zbE t 0).1.number):=⟨_,rfl⟩
 rw[←HRN.out]
 have hB1:Below w.heap.size w (w.alloc (.cells #[.string nm,v] 64)):=(Below.refl _ _).alloc (Nat.le_refl _) _
 have hK1:=Blk.new w [.string nm,v] 64
 obtain⟨g,c,w2,hcv,hb2,hby⟩:=zfh (w.alloc (.cells #[.string nm,v] 64)) t (by omega)
 have HB2:=hid (hB1.trans (hb2.mono hB1.size))
 have HK2:=hid (hK1.below hb2)
 have HBY:=hid hby
 have HCV:=hid hcv
 have HT:=hid ht
 have H:=hid h
 obtain⟨hlen,a,c',rfl,-⟩:=h.open
 have hST:zbA t= .string ⟨t.toArray⟩:=rfl
 rw[hST]
 clear hST h hB1 hK1 hb2 hby hcv ht
 obtain⟨tn,HTN⟩:∃ n,Hid (n=t.length):=⟨_,rfl⟩
 rw[←HTN.out] at HCV HBY
 have hcv:=HCV.out
 go_enter Tryz.func95,Tryz.ntmps95
 go_wp2_with fail
 refine (zj6 HBY.out HT.out).mono ?_
 rintro e w3 ⟨sa,sn,sc,at',cd,rfl,hcd,hb3,hcase⟩
 have HK3:=hid (HK2.out.below hb3)
 have HB3:=hid (HB2.out.trans (hb3.mono HB2.out.size))
 clear hb3 hcv HCV HBY
 have hzl:w.heap.size<w3.heap.size:=HK3.out.lt
 have z0:=HK3.out.cell 0 _ rfl
 have z1:=HK3.out.cell 1 _ rfl
 rcases hcase with ⟨ho,rfl,rfl,b,o,rfl,hc⟩|⟨ho,hcase⟩
 ·
  have HO:Hid (decide (zel t)=true):=decide_eq_true ho
  have hbl:b<w3.heap.size:=World.block_lt_of_cell? w3 _ hc
  have hix:∀ W:World,(Instr.indexAt 198 (.slice (some ⟨b,o,none⟩) 1 sc) (.int .i64 0)).run Tryz.prog W= .ok (.pointer (some ⟨b,o,none⟩)) W:=fun W=>by
   have:=zad Tryz.underlying198 zpe (a:=some ⟨b,o,none⟩) rfl 0 (len:=1) (by decide) (cap:=sc) W
   simpa using this
  rw[←HRN.out] at hc
  clear ho
  have k0:w3.drew.cell? ⟨w.heap.size,0,none⟩=some (.string nm)∧w3.drew.cell? ⟨w.heap.size,1,none⟩=some (.slice a fs.length c')∧w3.drew.cell? ⟨b,o,none⟩=some (.int .i64 rn):=⟨z0,z1,hc⟩
  obtain⟨x1,x2,HX2,HBN⟩:∃ (x1:Int) (x2:Bool),Hid (x2=decide (0≤zak fs rn))∧Hid (Calls Tryz.prog 86 #[.agg #[.string nm,.slice a fs.length c'],.int .i64 rn] w3.drew fun e w'=>e= .returned (.tuple #[.int .i64 x1,.bool x2])∧Below w3.drew.heap.size w3.drew w'):=⟨_,_,rfl,zcR (H.out.below HB3.out.drew) nm rn⟩
  go_wp2_with fail
  go_region_held3 (fun w'=>w'.cell? ⟨w.heap.size,0,none⟩=some (.string nm)∧w'.cell? ⟨w.heap.size,1,none⟩=some (.slice a fs.length c')∧w'.cell? ⟨b,o,none⟩=some (.int .i64 rn)) (first|(with_reducible exact k0)|(with_reducible exact k1)|go_keep) (first|(go_at_call 86;(with_reducible refine (HBN.out).mono ?_);rintro e w4 ⟨rfl,hb4⟩;have k1:w4.cell? ⟨w.heap.size,0,none⟩=some (.string nm)∧w4.cell? ⟨w.heap.size,1,none⟩=some (.slice a fs.length c')∧w4.cell? ⟨b,o,none⟩=some (.int .i64 rn):=⟨zaa hb4 _ _ k0.1,zaa hb4 _ _ k0.2.1,zaa hb4 _ _ k0.2.2⟩))
  go_wp2_with fail
  go_ret
  exact⟨by rw[HO.out,←HX2.out];rfl,HB3.out.trans (((Below.refl w3.heap.size w3).drew.trans hb4).mono HB3.out.size)⟩
 ·
  have HO:Hid (decide (zel t)=false):=decide_eq_false ho
  clear ho
  rcases hcase with hcase|hcase
  ·
   go_wp2_with fail
   go_ret
   exact⟨by rw[HO.out];rfl,HB3.out⟩
  ·
   by_cases h0:cd=0
   ·
    subst h0
    go_wp2_with fail
    go_ret
    exact⟨by rw[HO.out];rfl,HB3.out⟩
   ·
    go_wp2_with fail
    go_ret
    exact⟨by rw[HO.out];rfl,HB3.out⟩
end
section
open Go.RowKit
end
section
variable {T:Type} {R:T→T→Prop}
end
section
end
section
open Go.RowKit
end
section
open Go.RowKit
end
section
open Go.RowKit
end
end Go.Proofs.YtdpnmdkbdibkpaaGreatDoor
