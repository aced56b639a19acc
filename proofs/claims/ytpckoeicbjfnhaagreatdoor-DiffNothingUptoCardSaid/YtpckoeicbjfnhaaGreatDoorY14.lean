/- Parts of a proof: texts of the author, merged. No condition of their own. -/
import Derived.Test.YtpckoeicbjfnhaaGreatDoorY12
import Derived.Test.YtpckoeicbjfnhaaGreatDoorY13
import Derived.Deep.RegionLaw
namespace Go.Proofs.YtpckoeicbjfnhaaGreatDoor
set_option maxRecDepth 100000
set_option maxHeartbeats 16000000
section
open Go.RowKit Go.Shelf
def SubP (d:Nat)(w:World)(r:List Value)(x:M d):Prop:=zat d w (.agg r.toArray) x
def zf2 (d:Nat)(w:World)(r:List Value)(x:Val (M d)):Prop:=zb6 (zat d) w (.agg r.toArray) x
theorem news3 (w:World)(c1 c2 c3:List Value)(T1 T2 T3:TypeId) :
  Blk (((w.alloc (.cells c1.toArray T1)).alloc (.cells c2.toArray T2)).alloc (.cells c3.toArray T3)) w.heap.size c1 T1 ∧
  Blk (((w.alloc (.cells c1.toArray T1)).alloc (.cells c2.toArray T2)).alloc (.cells c3.toArray T3)) (w.heap.size+1) c2 T2 ∧
  Blk (((w.alloc (.cells c1.toArray T1)).alloc (.cells c2.toArray T2)).alloc (.cells c3.toArray T3)) (w.heap.size+1+1) c3 T3 ∧
  (((w.alloc (.cells c1.toArray T1)).alloc (.cells c2.toArray T2)).alloc (.cells c3.toArray T3)).heap.size=w.heap.size+1+1+1 ∧
  Below w.heap.size w (((w.alloc (.cells c1.toArray T1)).alloc (.cells c2.toArray T2)).alloc (.cells c3.toArray T3)):=by
 have e:∀ (w:World) (o:Obj),(w.alloc o).heap.size=w.heap.size+1:=fun w o=>by simp
 refine⟨((Blk.new w c1 T1).alloc _).alloc _,?_,?_,by rw[e,e,e],(((Below.refl _ _).alloc (Nat.le_refl _) _).alloc (by rw[e];omega) _).alloc (by rw[e,e];omega) _⟩
 ·
  have:=(Blk.new (w.alloc (.cells c1.toArray T1)) c2 T2).alloc (.cells c3.toArray T3)
  rw[e] at this
  exact this
 ·
  have:=Blk.new ((w.alloc (.cells c1.toArray T1)).alloc (.cells c2.toArray T2)) c3 T3
  rw[e,e] at this
  exact this
theorem zat.form:∀ {d:Nat} {w:World} {v:Value} {x:M d},zat d w v x→∃ a1 n1 c1 a2 n2 c2,v= .agg #[.slice a1 n1 c1,.slice a2 n2 c2]
 | 0,_,_,_,h=>h.elim
 | d+1,_,_,_,h=>by
  obtain⟨vv,uv,rfl,hV,hU⟩:=h
  obtain⟨-,va,vc,rfl,-,-⟩:=hV.open
  obtain⟨-,ua,uc,rfl,-,-⟩:=hU.open
  exact⟨_,_,_,_,_,_,rfl⟩
theorem ztl:∀ {d:Nat} (x:M d),1≤mwt d x
 | 0,x=>x.elim
 | d+1,x=>by show 1≤1+_+_;omega
theorem zl4 {d':Nat}:∀ (l:List (M d')) (d:Nat),d=d'→l.length≤(l.map (mwt d')).sum
 | [],_,_=>by simp
 | x::t,d,h=>by
  have:=zl4 t d h
  have:=ztl x
  rw[List.map_cons,List.sum_cons,List.length_cons]
  omega
end
section
open Go.RowKit Go.Shelf
theorem zb6.form {d:Nat}{w:World}{v:Value}{x:Val (M d)}(h:zb6 (zat d) w v x):∃ m a1 n1 c1 a2 n2 c2 a3 n3 c3,v= .agg #[.int .i64 m,.slice a1 n1 c1,.slice a2 n2 c2,.slice a3 n3 c3]:=by
 obtain⟨wv,tv,sv,rfl,-,hW,hT,hS⟩:=h
 obtain⟨-,wa,wc,rfl,-,-⟩:=hW.open
 obtain⟨-,ta,tc,rfl,-,-⟩:=hT.open
 obtain⟨-,sa,sc,rfl,-,-⟩:=hS.open
 exact⟨_,_,_,_,_,_,_,_,_,_,rfl⟩
theorem ztm {d:Nat}(x:M (d+1))(h:mwt (d+1) x≤1099511627776):(M.unk x).length≤1099511627776∧(M.vals x).length≤1099511627776:=by
 have h1:∀ l:List (List UInt8),l.length≤twt l:=fun l=>by
  induction l with
  | nil=>simp
  | cons t l ih=>unfold twt at *;simp;omega
 have h2:∀ l:List (Val (M d)),l.length≤(l.map (vwt (mwt d))).sum:=fun l=>by
  induction l with
  | nil=>simp
  | cons t l ih =>
   have:1≤vwt (mwt d) t:=by unfold vwt;omega
   simp;omega
 have h3:1+twt (M.unk x)+((M.vals x).map (vwt (mwt d))).sum≤1099511627776:=h
 have:=h1 (M.unk x)
 have:=h2 (M.vals x)
 omega
end
section
open Go.RowKit
theorem zeq {α:Type}(p:α→Bool)(l:List α)(k:Nat)(x:α)(h:l[k]?=some x):zai p (l.drop k) k=if p x then (k:Int) else zai p (l.drop (k+1)) (k+1):=by
 obtain⟨hk,rfl⟩:=List.getElem?_eq_some_iff.1 h
 rw[List.drop_eq_getElem_cons hk,zai]
theorem zer {α:Type}(p:α→Bool):∀ (l:List α) (i:Nat),decide (0≤zai p l i)=l.any p
 | [],i=>by simp[zai]
 | x::r,i=>by
  rw[zai,List.any_cons]
  cases h:p x with
  | true=>rw[if_pos rfl];simp
  | false=>rw[if_neg (by decide),zer p r (i+1)];simp
theorem zk0 {w:World}{v:Value}{l:List Nat}(h:zby w v l)(F:Nat)(cap:Array Value)(p:Nat→Bool)(hcf:∀ (args:Array Value) (w:World),(callFunc F args).run Tryz.prog w= .ok (.enter F args) w)
  (hcl:∀ x∈l,∀ (wr:World),x<2 ^ 64→Below w.heap.size w wr→Calls Tryz.prog F (#[.int .u64 x]++cap) wr fun e w'=>e= .returned (.bool (p x))∧Below wr.heap.size wr w') :
  Calls Tryz.prog 188 #[v,.func (.func F) #[] cap] w fun e w'=>e= .returned (.int .i64 (zai p l 0))∧Below w.heap.size w w':=by
 obtain⟨hlen,a,c,rfl,-,hat⟩:=h.open
 obtain⟨n,HN⟩:∃ n,Hid (n=l.length):=⟨_,rfl⟩
 rw[←HN.out] at hlen ⊢
 have HAT:=hid hat
 have HCL:=hid hcl
 clear hat hcl
 go_enter Tryz.func188,Tryz.ntmps188
 go_wp2
 go_loopw [8] (fun v8 wr=>∃ k:Nat,k≤n∧v8= .int .i64 k∧Hid (zai p (l.drop k) k=zai p l 0)∧Hid (Below w.heap.size w wr)) (fun v8 _=>n - (intOf v8).toNat)
 case atStart=>exact⟨0,by omega,rfl,hid rfl,Below.refl _ _⟩
 case round =>
  obtain⟨k,hk,rfl,HK,HB⟩:=hrel
  by_cases hlt:k<n
  ·
   have hat:=HAT.out
   have hxi:l[k]?=some (l[k]'(by rw[←HN.out];exact hlt)):=List.getElem?_eq_getElem _
   generalize l[k]'(by rw[←HN.out];exact hlt)=x at hxi
   obtain⟨hx64,b,o,ha,g0⟩:=hat k x hxi
   clear hat
   have HXX:=hid hx64
   clear hx64
   have r0:=zaa HB.out _ _ g0
   have hU:zkV x= .int .u64 x:=rfl
   rw[hU] at r0
   have hbl:b<wr.heap.size:=World.block_lt_of_cell? wr _ r0
   have hix:=zaj Tryz.underlying62 zhY ha k hlt (cap:=c)
   clear g0 hU
   have hst:=hid (zeq p l k x hxi)
   have HMEM:=hid (List.mem_of_getElem? hxi)
   clear ha hxi
   go_wp2_with fail
   have hcl:=HCL.out
   refine (hcl x HMEM.out wr HXX.out HB.out).mono ?_
   rintro e w5 ⟨rfl,hb5⟩
   clear hcl
   have HB5:Hid (Below w.heap.size w w5):=zag HB.out hb5 HB.out.size
   clear hb5
   cases hp:p x with
   | true =>
    have e:zai p l 0=k:=by rw[←HK.out,hst.out,if_pos hp]
    have HE:=hid e
    clear hp e
    go_wp2
    go_ret
    exact⟨by rw[HE.out];rfl,HB5.out⟩
   | false =>
    have e:zai p (l.drop (k+1)) (k+1)=zai p l 0:=by rw[←HK.out,hst.out,if_neg (by rw[hp];decide)]
    have HE:=hid e
    clear hp e
    go_wp2
    go_roundw
    case rel=>exact⟨k+1,by omega,by go_num,HE.out,HB5.out⟩
    case measure=>simp[intOf];omega
  ·
   go_wp2
   go_ret
   have e:zai p l 0= -1:=by
    rw[←HK.out,List.drop_of_length_le (by rw[←HN.out];omega)];rfl
   exact⟨by rw[e];rfl,HB.out⟩
theorem zhN {w:World}{v:Value}{l:List Nat}(h:zby w v l)(F:Nat)(cap:Array Value)(p:Nat→Bool)(hcf:∀ (args:Array Value) (w:World),(callFunc F args).run Tryz.prog w= .ok (.enter F args) w)
  (hcl:∀ x∈l,∀ (wr:World),x<2 ^ 64→Below w.heap.size w wr→Calls Tryz.prog F (#[.int .u64 x]++cap) wr fun e w'=>e= .returned (.bool (p x))∧Below wr.heap.size wr w') :
  Calls Tryz.prog 136 #[v,.func (.func F) #[] cap] w fun e w'=>e= .returned (.bool (l.any p))∧Below w.heap.size w w':=by
 obtain⟨x,HX⟩:∃ x,Hid (x=zai p l 0):=⟨_,rfl⟩
 have HA:Hid (decide (0≤x)=l.any p):=by rw[HX.out];exact zer p l 0
 have HI:=hid (zk0 h F cap p hcf hcl)
 rw[←HX.out] at HI
 obtain⟨hlen,a,c,rfl,-,-⟩:=h.open
 clear h hcl
 go_enter Tryz.func136,Tryz.ntmps136
 go_wp2_with fail
 refine HI.out.mono ?_
 rintro e w1 ⟨rfl,hb1⟩
 go_wp2_with fail
 go_ret
 exact⟨zfS (by rw[←HA.out];first|rfl|(congr 1)),hb1⟩
theorem zk1 {w:World}{v:Value}{l:List (List UInt8)}(h:zbe w v l)(F:Nat)(cap:Array Value)(p:(List UInt8)→Bool)(hcf:∀ (args:Array Value) (w:World),(callFunc F args).run Tryz.prog w= .ok (.enter F args) w)
  (hcl:∀ x∈l,∀ (wr:World),x.length≤140737488355328→Below w.heap.size w wr→Calls Tryz.prog F (#[zb3 x]++cap) wr fun e w'=>e= .returned (.bool (p x))∧Below wr.heap.size wr w') :
  Calls Tryz.prog 143 #[v,.func (.func F) #[] cap] w fun e w'=>e= .returned (.int .i64 (zai p l 0))∧Below w.heap.size w w':=by
 obtain⟨hlen,a,c,rfl,-,hat⟩:=h.open
 obtain⟨n,HN⟩:∃ n,Hid (n=l.length):=⟨_,rfl⟩
 rw[←HN.out] at hlen ⊢
 have HAT:=hid hat
 have HCL:=hid hcl
 clear hat hcl
 go_enter Tryz.func143,Tryz.ntmps143
 go_wp2
 go_loopw [8] (fun v8 wr=>∃ k:Nat,k≤n∧v8= .int .i64 k∧Hid (zai p (l.drop k) k=zai p l 0)∧Hid (Below w.heap.size w wr)) (fun v8 _=>n - (intOf v8).toNat)
 case atStart=>exact⟨0,by omega,rfl,hid rfl,Below.refl _ _⟩
 case round =>
  obtain⟨k,hk,rfl,HK,HB⟩:=hrel
  by_cases hlt:k<n
  ·
   have hat:=HAT.out
   have hxi:l[k]?=some (l[k]'(by rw[←HN.out];exact hlt)):=List.getElem?_eq_getElem _
   generalize l[k]'(by rw[←HN.out];exact hlt)=x at hxi
   obtain⟨hx64,b,o,ha,g0⟩:=hat k x hxi
   clear hat
   have HXX:=hid hx64
   clear hx64
   have r0:=zaa HB.out _ _ g0
   have hU:zb3 x= .string ⟨x.toArray⟩:=rfl
   rw[hU] at r0
   have hbl:b<wr.heap.size:=World.block_lt_of_cell? wr _ r0
   have hix:=zaj Tryz.underlying25 zkX ha k hlt (cap:=c)
   clear g0 hU
   have hst:=hid (zeq p l k x hxi)
   have HMEM:=hid (List.mem_of_getElem? hxi)
   clear ha hxi
   go_wp2_with fail
   have hcl:=HCL.out
   refine (hcl x HMEM.out wr HXX.out HB.out).mono ?_
   rintro e w5 ⟨rfl,hb5⟩
   clear hcl
   have HB5:Hid (Below w.heap.size w w5):=zag HB.out hb5 HB.out.size
   clear hb5
   cases hp:p x with
   | true =>
    have e:zai p l 0=k:=by rw[←HK.out,hst.out,if_pos hp]
    have HE:=hid e
    clear hp e
    go_wp2
    go_ret
    exact⟨by rw[HE.out];rfl,HB5.out⟩
   | false =>
    have e:zai p (l.drop (k+1)) (k+1)=zai p l 0:=by rw[←HK.out,hst.out,if_neg (by rw[hp];decide)]
    have HE:=hid e
    clear hp e
    go_wp2
    go_roundw
    case rel=>exact⟨k+1,by omega,by go_num,HE.out,HB5.out⟩
    case measure=>simp[intOf];omega
  ·
   go_wp2
   go_ret
   have e:zai p l 0= -1:=by
    rw[←HK.out,List.drop_of_length_le (by rw[←HN.out];omega)];rfl
   exact⟨by rw[e];rfl,HB.out⟩
theorem zeK {w:World}{v:Value}{l:List (List UInt8)}(h:zbe w v l)(F:Nat)(cap:Array Value)(p:(List UInt8)→Bool)(hcf:∀ (args:Array Value) (w:World),(callFunc F args).run Tryz.prog w= .ok (.enter F args) w)
  (hcl:∀ x∈l,∀ (wr:World),x.length≤140737488355328→Below w.heap.size w wr→Calls Tryz.prog F (#[zb3 x]++cap) wr fun e w'=>e= .returned (.bool (p x))∧Below wr.heap.size wr w') :
  Calls Tryz.prog 94 #[v,.func (.func F) #[] cap] w fun e w'=>e= .returned (.bool (l.any p))∧Below w.heap.size w w':=by
 obtain⟨x,HX⟩:∃ x,Hid (x=zai p l 0):=⟨_,rfl⟩
 have HA:Hid (decide (0≤x)=l.any p):=by rw[HX.out];exact zer p l 0
 have HI:=hid (zk1 h F cap p hcf hcl)
 rw[←HX.out] at HI
 obtain⟨hlen,a,c,rfl,-,-⟩:=h.open
 clear h hcl
 go_enter Tryz.func94,Tryz.ntmps94
 go_wp2_with fail
 refine HI.out.mono ?_
 rintro e w1 ⟨rfl,hb1⟩
 go_wp2_with fail
 go_ret
 exact⟨zfS (by rw[←HA.out];first|rfl|(congr 1)),hb1⟩
theorem zk2 {d:Nat}{w:World}{v:Value}{l:List (M d)}(h:ze4 (zat d) w v l)(F:Nat)(cap:Array Value)(p:(M d)→Bool)(hcf:∀ (args:Array Value) (w:World),(callFunc F args).run Tryz.prog w= .ok (.enter F args) w)
  (hcl:∀ x∈l,∀ (mv:Value) (wr:World),zat d w mv x→Below w.heap.size w wr→Calls Tryz.prog F (#[mv]++cap) wr fun e w'=>e= .returned (.bool (p x))∧Below wr.heap.size wr w') :
  Calls Tryz.prog 192 #[v,.func (.func F) #[] cap] w fun e w'=>e= .returned (.int .i64 (zai p l 0))∧Below w.heap.size w w':=by
 obtain⟨hlen,a,c,rfl,-,hat⟩:=h.open
 obtain⟨n,HN⟩:∃ n,Hid (n=l.length):=⟨_,rfl⟩
 rw[←HN.out] at hlen ⊢
 have HAT:=hid hat
 have HCL:=hid hcl
 clear hat hcl
 go_enter Tryz.func192,Tryz.ntmps192
 go_wp2
 go_loopw [8] (fun v8 wr=>∃ k:Nat,k≤n∧v8= .int .i64 k∧Hid (zai p (l.drop k) k=zai p l 0)∧Hid (Below w.heap.size w wr)) (fun v8 _=>n - (intOf v8).toNat)
 case atStart=>exact⟨0,by omega,rfl,hid rfl,Below.refl _ _⟩
 case round =>
  obtain⟨k,hk,rfl,HK,HB⟩:=hrel
  by_cases hlt:k<n
  ·
   have hat:=HAT.out
   have hxi:l[k]?=some (l[k]'(by rw[←HN.out];exact hlt)):=List.getElem?_eq_getElem _
   generalize l[k]'(by rw[←HN.out];exact hlt)=x at hxi
   obtain⟨b,o,v1,v2,ha,g0,g1,hM⟩:=hat k x hxi
   clear hat
   have HXX:=hid hM
   clear hM
   have r0:=zaa HB.out _ _ g0
   have r1:=zaa HB.out _ _ g1
   have hbl:b<wr.heap.size:=World.block_lt_of_cell? wr _ r0
   have hix:=zau Tryz.underlying79 zep ha k hlt (cap:=c)
   clear g0 g1
   have hst:=hid (zeq p l k x hxi)
   have HMEM:=hid (List.mem_of_getElem? hxi)
   clear ha hxi
   go_wp2_with fail
   have hcl:=HCL.out
   refine (hcl x HMEM.out _ _ HXX.out HB.out).mono ?_
   rintro e w5 ⟨rfl,hb5⟩
   clear hcl
   have HB5:Hid (Below w.heap.size w w5):=zag HB.out hb5 HB.out.size
   clear hb5
   cases hp:p x with
   | true =>
    have e:zai p l 0=k:=by rw[←HK.out,hst.out,if_pos hp]
    have HE:=hid e
    clear hp e
    go_wp2
    go_ret
    exact⟨by rw[HE.out];rfl,HB5.out⟩
   | false =>
    have e:zai p (l.drop (k+1)) (k+1)=zai p l 0:=by rw[←HK.out,hst.out,if_neg (by rw[hp];decide)]
    have HE:=hid e
    clear hp e
    go_wp2
    go_roundw
    case rel=>exact⟨k+1,by omega,by go_num,HE.out,HB5.out⟩
    case measure=>simp[intOf];omega
  ·
   go_wp2
   go_ret
   have e:zai p l 0= -1:=by
    rw[←HK.out,List.drop_of_length_le (by rw[←HN.out];omega)];rfl
   exact⟨by rw[e];rfl,HB.out⟩
theorem zhO {d:Nat}{w:World}{v:Value}{l:List (M d)}(h:ze4 (zat d) w v l)(F:Nat)(cap:Array Value)(p:(M d)→Bool)(hcf:∀ (args:Array Value) (w:World),(callFunc F args).run Tryz.prog w= .ok (.enter F args) w)
  (hcl:∀ x∈l,∀ (mv:Value) (wr:World),zat d w mv x→Below w.heap.size w wr→Calls Tryz.prog F (#[mv]++cap) wr fun e w'=>e= .returned (.bool (p x))∧Below wr.heap.size wr w') :
  Calls Tryz.prog 139 #[v,.func (.func F) #[] cap] w fun e w'=>e= .returned (.bool (l.any p))∧Below w.heap.size w w':=by
 obtain⟨x,HX⟩:∃ x,Hid (x=zai p l 0):=⟨_,rfl⟩
 have HA:Hid (decide (0≤x)=l.any p):=by rw[HX.out];exact zer p l 0
 have HI:=hid (zk2 h F cap p hcf hcl)
 rw[←HX.out] at HI
 obtain⟨hlen,a,c,rfl,-,-⟩:=h.open
 clear h hcl
 go_enter Tryz.func139,Tryz.ntmps139
 go_wp2_with fail
 refine HI.out.mono ?_
 rintro e w1 ⟨rfl,hb1⟩
 go_wp2_with fail
 go_ret
 exact⟨zfS (by rw[←HA.out];first|rfl|(congr 1)),hb1⟩
end
end Go.Proofs.YtpckoeicbjfnhaaGreatDoor
