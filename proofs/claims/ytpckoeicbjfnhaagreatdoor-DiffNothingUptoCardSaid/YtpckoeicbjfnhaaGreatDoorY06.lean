/- Parts of a proof: texts of the author, merged. No condition of their own. -/
import Derived.Test.YtpckoeicbjfnhaaGreatDoorY05
namespace Go.Proofs.YtpckoeicbjfnhaaGreatDoor
set_option maxRecDepth 100000
set_option maxHeartbeats 16000000
section
open Go.RowKit
end
section
open Go.RowKit
def zbl (s:List Mes)(root d:Int):Nat:=if zaw s=false then 9 else if root<0∨(s.length:Int)≤root∨d<0∨64<d then 2 else 0
theorem zo9 {w:World}{v:Value}{s:List Mes}(h:zap w v s)(root d:Int) :
  Calls Tryz.prog 121 #[v,.int .i64 root,.int .i64 d] w fun e w'=>e= .returned (.int .u8 (zbl s root d))∧Below w.heap.size w w':=by
 obtain⟨hlen,a,cap,rfl,-⟩:=h.open
 obtain⟨n,HN⟩:∃ n,Hid (n=s.length):=⟨_,rfl⟩
 obtain⟨x,HX⟩:∃ x,Hid (x=zbl s root d):=⟨_,rfl⟩
 rw[←HX.out]
 unfold zbl at HX
 rw[←HN.out] at HX hlen h ⊢
 cases hs:zaw s with
 | false =>
  have HS:=hid hs
  clear hs
  obtain rfl:x=9:=by rw[HX.out,if_pos HS.out]
  go_enter Tryz.func121,Tryz.ntmps121
  go_wp2_with (go_at_call 28;refine (za0 h).mono ?_;rintro e w1 ⟨rfl,hb⟩;rw[HS.out])
  go_ret
  exact⟨rfl,hb⟩
 | true =>
  have HS:=hid hs
  clear hs
  have HX1:Hid (x=if root<0∨(n:Int)≤root∨d<0∨64<d then 2 else 0):=by rw[Hid,HX.out,if_neg (by rw[HS.out];decide)]
  by_cases c1:root<0
  ·
   obtain rfl:x=2:=by rw[HX1.out,if_pos (by omega)]
   go_enter Tryz.func121,Tryz.ntmps121
   go_wp2_with (go_at_call 28;refine (za0 h).mono ?_;rintro e w1 ⟨rfl,hb⟩;rw[HS.out])
   go_ret
   exact⟨rfl,hb⟩
  ·
   by_cases c2:(n:Int)≤root
   ·
    obtain rfl:x=2:=by rw[HX1.out,if_pos (by omega)]
    go_enter Tryz.func121,Tryz.ntmps121
    go_wp2_with (go_at_call 28;refine (za0 h).mono ?_;rintro e w1 ⟨rfl,hb⟩;rw[HS.out])
    go_ret
    exact⟨rfl,hb⟩
   ·
    by_cases c3:d<0
    ·
     obtain rfl:x=2:=by rw[HX1.out,if_pos (by omega)]
     go_enter Tryz.func121,Tryz.ntmps121
     go_wp2_with (go_at_call 28;refine (za0 h).mono ?_;rintro e w1 ⟨rfl,hb⟩;rw[HS.out])
     go_ret
     exact⟨rfl,hb⟩
    ·
     by_cases c4:64<d
     ·
      obtain rfl:x=2:=by rw[HX1.out,if_pos (by omega)]
      go_enter Tryz.func121,Tryz.ntmps121
      go_wp2_with (go_at_call 28;refine (za0 h).mono ?_;rintro e w1 ⟨rfl,hb⟩;rw[HS.out])
      go_ret
      exact⟨rfl,hb⟩
     ·
      obtain rfl:x=0:=by rw[HX1.out,if_neg (by omega)]
      go_enter Tryz.func121,Tryz.ntmps121
      go_wp2_with (go_at_call 28;refine (za0 h).mono ?_;rintro e w1 ⟨rfl,hb⟩;rw[HS.out])
      go_ret
      exact⟨rfl,hb⟩
def zai {α:Type}(p:α→Bool):List α→Nat→Int
 | [],_=> -1
 | f::r,i=>if p f then i else zai p r (i+1)
def zae (fs:List Fld)(n:Int):Int:=zai (fun f=>decide (f.number=n)) fs 0
theorem zgT (p:Fld→Bool)(fs:List Fld)(k:Nat)(hk:k<fs.length):zai p (fs.drop k) k=if p (fs.getD k .zero) then (k:Int) else zai p (fs.drop (k+1)) (k+1):=by
 have e:fs.getD k .zero=fs[k]:=by simp[List.getD,hk]
 rw[e,List.drop_eq_getElem_cons hk,zai]
theorem zd8 {α:Type}(p:α→Bool):∀ (fs:List α) (i:Nat),zai p fs i= -1∨∃ k:Nat,zai p fs i=k∧i≤k∧k<i+fs.length
 | [],_=> .inl rfl
 | f::r,i=>by
  simp only[zai]
  split
  ·
   exact .inr ⟨i,rfl,by omega,by simp⟩
  ·
   rcases zd8 p r (i+1) with h|⟨k,h,h1,h2⟩
   ·
    exact .inl h
   ·
    exact .inr ⟨k,h,by omega,by simp;omega⟩
theorem zgn {w:World}{v:Value}{fs:List Fld}(h:zaK w v fs)(F:Nat)(cap:Array Value)(p:Fld→Bool)(hcf:∀ (args:Array Value) (w:World),(callFunc F args).run Tryz.prog w= .ok (.enter F args) w)
  (hcl:∀ (f:Fld) (wr:World),f.Ok→Below w.heap.size w wr→Calls Tryz.prog F (#[f.val]++cap) wr fun e w'=>e= .returned (.bool (p f))∧Below wr.heap.size wr w') :
  Calls Tryz.prog 158 #[v,.func (.func F) #[] cap] w fun e w'=>e= .returned (.int .i64 (zai p fs 0))∧Below w.heap.size w w':=by
 obtain⟨hlen,a,c,rfl,hat⟩:=h.open
 obtain⟨n,HN⟩:∃ n,Hid (n=fs.length):=⟨_,rfl⟩
 rw[←HN.out] at hat hlen ⊢
 have HAT:=hid hat
 have HCL:=hid hcl
 clear hat hcl
 go_enter Tryz.func158,Tryz.ntmps158
 go_wp2
 go_loopw [8] (fun v8 wr=>∃ k:Nat,k≤n∧v8= .int .i64 k∧Hid (zai p (fs.drop k) k=zai p fs 0)∧Hid (Below w.heap.size w wr)) (fun v8 _=>n - (intOf v8).toNat)
 case atStart=>exact⟨0,by omega,rfl,hid rfl,Below.refl _ _⟩
 case round =>
  obtain⟨k,hk,rfl,HK,HB⟩:=hrel
  by_cases hlt:k<n
  ·
   have hat:=HAT.out
   obtain⟨b,o,ha,hfok,g0,g1,g2,g3,g4,g5⟩:=hat k hlt
   clear hat
   have hkw:∀ p u,w.cell? p=some u→wr.cell? p=some u:=fun p u hu=>(Below.cell (p:=p) HB.out (World.block_lt_of_cell? w p hu)).trans hu
   have r0:=hkw _ _ g0
   have r1:=hkw _ _ g1
   have r2:=hkw _ _ g2
   have r3:=hkw _ _ g3
   have r4:=hkw _ _ g4
   have r5:=hkw _ _ g5
   have hix:=zau Tryz.underlying74 zcY ha k hlt (cap:=c)
   have HA:=hid ha
   have hst:=hid (zgT p fs k (by rw[←HN.out];exact hlt))
   obtain⟨f,HF⟩:∃ f,Hid (f=fs.getD k .zero):=⟨_,rfl⟩
   rw[←HF.out] at hfok r0 r1 r2 r3 r4 r5 hst
   have HFO:=hid hfok
   clear ha hkw g0 g1 g2 g3 g4 g5 hfok
   go_wp2_with fail
   have hcl:=HCL.out
   refine (hcl f _ HFO.out HB.out).mono ?_
   rintro e w5 ⟨rfl,hb5⟩
   clear hcl
   have HB5:Hid (Below w.heap.size w w5):=zag HB.out hb5 HB.out.size
   clear hb5
   cases hp:p f with
   | true =>
    have e:zai p fs 0=k:=by rw[←HK.out,hst.out,if_pos hp]
    have HE:=hid e
    clear hp e
    go_wp2
    go_ret
    exact⟨by rw[HE.out];rfl,HB5.out⟩
   | false =>
    have e:zai p (fs.drop (k+1)) (k+1)=zai p fs 0:=by rw[←HK.out,hst.out,if_neg (by rw[hp];decide)]
    have HE:=hid e
    clear hp e
    go_wp2
    go_roundw
    case rel=>exact⟨k+1,by omega,by go_num,HE.out,HB5.out⟩
    case measure=>simp[intOf];omega
  ·
   go_wp2
   go_ret
   have e:zai p fs 0= -1:=by
    rw[←HK.out,List.drop_of_length_le (by rw[←HN.out];omega)];rfl
   exact⟨by rw[e];rfl,HB.out⟩
theorem zlX {w:World}{q:Nat}{x:Int}(hq:w.cell? ⟨q,0,none⟩=some (.int .i64 x))(f:Fld) :
  Calls Tryz.prog 237 #[f.val,.pointer (some ⟨q,0,none⟩)] w fun e w'=>e= .returned (.bool (decide (f.number=x)))∧Below w.heap.size w w':=by
 obtain⟨name,number,kind,rep,packed,of⟩:=f
 simp only[Fld.val]
 have hql:q<w.heap.size:=World.block_lt_of_cell? w _ hq
 go_enter Tryz.func237,Tryz.ntmps237
 go_wp2
 go_ret
 refine⟨zfS ?_,by (with_reducible repeat first|exact Below.refl _ _|refine pzA ?_ _|refine pzB ?_ _|refine zab ?_ _|refine Below.drew ?_)⟩
 show Value.bool (number == x)=_
 congr 1
theorem zjR {w:World}{v:Value}{fs:List Fld}(h:zaK w v fs)(nm:ByteArray)(x:Int) :
  Calls Tryz.prog 215 #[.agg #[.string nm,v],.int .i64 x] w fun e w'=>e= .returned (.int .i64 (zae fs x))∧Below w.heap.size w w':=by
 obtain⟨hlen,a,c,rfl,-⟩:=h.open
 go_enter Tryz.func215,Tryz.ntmps215
 go_wp2_with fail
 refine (zgn (h.keep (w':=(w.alloc _).alloc _) (zaa (Below.alloc ((Below.refl _ _).alloc (Nat.le_refl _) _) (by simp) _))) 237 _ (fun f=>decide (f.number=x)) (fun args w=>by simp[go_sem]) ?_).mono ?_
 ·
  intro f wr hok hb
  refine zlX ?_ f
  have:=zaa hb ⟨w.heap.size+1,0,none⟩ (.int .i64 x) (by simp[go_sem])
  exact this
 ·
  rintro e w5 ⟨rfl,hb⟩
  go_wp2
  go_ret
  exact⟨rfl,zag (Below.alloc ((Below.refl _ _).alloc (Nat.le_refl _) _) (by simp) _) hb (by simp;omega)⟩
end
section
open Go.RowKit
theorem zgU {w:World}{q:Nat}{x:Int}(hq:w.cell? ⟨q,0,none⟩=some (.int .i64 x))(f:Fld) :
  Calls Tryz.prog 105 #[f.val,.pointer (some ⟨q,0,none⟩)] w fun e w'=>e= .returned (.bool (decide (f.number=x)))∧Below w.heap.size w w':=by
 obtain⟨name,number,kind,rep,packed,of⟩:=f
 simp only[Fld.val]
 have hql:q<w.heap.size:=World.block_lt_of_cell? w _ hq
 go_enter Tryz.func105,Tryz.ntmps105
 go_wp2
 go_ret
 refine⟨zfS ?_,by (with_reducible repeat first|exact Below.refl _ _|refine pzA ?_ _|refine pzB ?_ _|refine zab ?_ _|refine Below.drew ?_)⟩
 show Value.bool (number == x)=_
 congr 1
theorem zng {α:Type}(p:α→Bool)(l:List α)(h:l.length≤140737488355328):-1≤zai p l 0∧zai p l 0≤140737488355328:=by
 rcases zd8 p l 0 with h|⟨j,h,h1,h2⟩
 ·
  rw[h];omega
 ·
  rw[h];omega
theorem zqC {w:World}{v:Value}{fs:List Fld}(h:zaK w v fs)(nm:ByteArray)(F:Nat)(cap:Array Value)(p:Fld→Bool)(hcf:∀ (args:Array Value) (w:World),(callFunc F args).run Tryz.prog w= .ok (.enter F args) w)
  (hcl:∀ (f:Fld) (wr:World),f.Ok→Below w.heap.size w wr→Calls Tryz.prog F (#[f.val]++cap) wr fun e w'=>e= .returned (.bool (p f))∧Below wr.heap.size wr w') :
  Calls Tryz.prog 104 #[.agg #[.string nm,v],.func (.func F) #[] cap] w fun e w'=>e= .returned (.tuple #[.int .i64 (if 0≤zai p fs 0 then zai p fs 0 else 0),.bool (decide (0≤zai p fs 0))])∧Below w.heap.size w w':=by
 have hB1:Below w.heap.size w (w.alloc (.cells #[.string nm,v] 76)):=(Below.refl _ _).alloc (Nat.le_refl _) _
 have HI:=hid (zgn (h.keep (w':=w.alloc (.cells #[.string nm,v] 76)) (zaa hB1)) F cap p hcf (fun f wr hok hb=>hcl f wr hok (hB1.trans (hb.mono (by simp)))))
 have hbd:=zng p fs h.1.2.1
 obtain⟨hlen,a,c,rfl,-⟩:=h.open
 generalize zai p fs 0=k at *
 clear h hcl
 by_cases hk:0≤k
 ·
  rw[if_pos hk]
  go_enter Tryz.func104,Tryz.ntmps104
  go_wp2_with fail
  refine HI.out.mono ?_
  rintro e w1 ⟨rfl,hb1⟩
  go_wp2_with fail
  go_ret2
  refine⟨?_,zag hB1 hb1 (by simp)⟩
  first|rfl|(simp[hk])|(simp[hk];omega)
 ·
  rw[if_neg hk]
  go_enter Tryz.func104,Tryz.ntmps104
  go_wp2_with fail
  refine HI.out.mono ?_
  rintro e w1 ⟨rfl,hb1⟩
  go_wp2_with fail
  go_ret2
  refine⟨?_,zag hB1 hb1 (by simp)⟩
  first|rfl|(simp[hk])|(simp[hk];omega)
theorem zdu {w:World}{v:Value}{fs:List Fld}(h:zaK w v fs)(nm:ByteArray)(x:Int) :
  Calls Tryz.prog 67 #[.agg #[.string nm,v],.int .i64 x] w fun e w'=>e= .returned (.tuple #[.int .i64 (if 0≤zae fs x then zae fs x else 0),.bool (decide (0≤zae fs x))])∧Below w.heap.size w w':=by
 have H:=hid h
 obtain⟨hlen,a,c,rfl,-⟩:=h.open
 obtain⟨k,HK⟩:∃ k,Hid (zai (fun f:Fld=>decide (f.number=x)) fs 0=k):=⟨_,rfl⟩
 rw[show zae fs x=k from HK.out]
 clear h
 by_cases hk:0≤k
 all_goals
  go_enter Tryz.func67,Tryz.ntmps67
  go_wp2_with fail
  refine (zqC (H.out.keep (w':=(w.alloc _).alloc _) (zaa (Below.alloc ((Below.refl _ _).alloc (Nat.le_refl _) _) (by simp) _))) nm 105 _ (fun f=>decide (f.number=x)) (fun args w=>by simp[go_sem]) ?_).mono ?_
  ·
   intro f wr hok hb
   refine zgU ?_ f
   have:=zaa hb ⟨w.heap.size+1,0,none⟩ (.int .i64 x) (by simp[go_sem])
   exact this
  ·
   rintro e w5 ⟨rfl,hb⟩
   rw[HK.out]
   first|rw[if_pos hk]|rw[if_neg (by omega)]
   go_wp2_with fail
   go_ret2
   refine⟨?_,zag (Below.alloc ((Below.refl _ _).alloc (Nat.le_refl _) _) (by simp) _) hb (by simp;omega)⟩
   first|rfl|(simp[hk])
end
end Go.Proofs.YtpckoeicbjfnhaaGreatDoor
