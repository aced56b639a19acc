/- Slices of ints: what they hold; slices.Equal, slices.Clone, slices.Compare of ints; darningref07.SameInts. No condition. darningref07.Sorted: the places of the fields by rising numbers (sortedF). At most 2^39 fields. -/
import Derived.Test.YtpckoeicbjfnhaaGreatDoorZ05
import Derived.Test.YtpckoeicbjfnhaaGreatDoorZ07
import Derived.Test.YtpckoeicbjfnhaaGreatDoorZ09
import Derived.Test.YtpckoeicbjfnhaaGreatDoorZ15
import Derived.Test.YtpckoeicbjfnhaaGreatDoorZ19
namespace Go.Proofs.YtpckoeicbjfnhaaGreatDoor
set_option maxRecDepth 100000
set_option maxHeartbeats 16000000
section
open Go.RowKit
def intV (x:Int):Value:=.int .i64 x
def zbi (x:Int):Prop:=-9223372036854775808≤x∧x≤9223372036854775807
def zaI (w:World)(v:Value)(l:List Int):Prop:=Seg w v 1 l.length (l.map intV)∧∀ x∈l,zbi x
theorem zaI.keep {w w':World}{v:Value}{l:List Int}(h:zaI w v l)(hk:∀ p u,w.cell? p=some u→w'.cell? p=some u):zaI w' v l:=⟨h.1.keep hk,h.2⟩
theorem zaI.below {w w':World}{v:Value}{l:List Int}(h:zaI w v l)(hb:Below w.heap.size w w'):zaI w' v l:=h.keep (zaa hb)
theorem zaI.open {w:World}{v:Value}{l:List Int}(h:zaI w v l) :
  l.length≤140737488355328∧∃ a cap,v= .slice a l.length cap∧(a=none→cap=0)∧∀ k x,l[k]?=some x→zbi x∧∃ b o,a=some ⟨b,o,none⟩∧w.cell? ⟨b,o+k,none⟩=some (.int .i64 x):=by
 obtain⟨⟨_,h2,a,cap,hv,h3,h4,h5,h6⟩,hl⟩:=h
 refine⟨h2,a,cap,hv,h5,fun k t hk=>⟨hl _ (List.mem_of_getElem? hk),h6 k _ ?_⟩⟩
 simp[hk,intV]
theorem zcH (w:World):(sizeOf 3).run Tryz.prog w= .ok 1 w:=by kernel_rfl
theorem zcX:Tryz.prog.underlying 50=some (.slice 3):=Tryz.underlying50
theorem zq0:(Tryz.prog.info? 3).map (fun i=>(i.zero,i.size,i.bytes))=some (some (.int .i64 0),1,8):=by kernel_rfl
def zaN (w:World)(base:Nat)(v:Value)(l:List Int):Prop:=w.ownsRow base 3 1 v l.length (l.map intV)
theorem zaN.ints {w:World}{base:Nat}{v:Value}{l:List Int}(h:zaN w base v l)(hn:l.length≤140737488355328)(hl:∀ x∈l,zbi x):zaI w v l:=⟨zbV h hn,hl⟩
theorem zaN.later {w w':World}{base:Nat}{v:Value}{l:List Int}(h:zaN w base v l)(hb:Below w.heap.size w w'):zaN w' base v l:=
 World.ownsRow.kept (row:=none) h (zbg hb none) (by cases hv:v.ownBlock with|none=>exact .inl rfl|some k=>exact .inr (by simp))
theorem zaN.form {w:World}{base:Nat}{v:Value}{l:List Int}(h:zaN w base v l):∃ a c,v= .slice a l.length c:=by
 rcases h.2 with ⟨h1,h2⟩|⟨g,cap,cur,hv,-⟩
 ·
  exact⟨none,0,by rw[h1,h2]⟩
 ·
  exact⟨_,_,hv⟩
theorem zb9 {w:World}{base:Nat}{v x:Value}{l m:List Int}(h:zaN w base v l)(hx:zaI w x m)(hlen:l.length+m.length≤17592186044416)(hbase:base≤w.heap.size) :
  ∃ v' w',(Builtin.append_ #[50,50] 50 #[v,x]).run Tryz.prog w= .ok v' w'∧zaN w' base v' (l++m)∧w.grownBy w' v.ownBlock∧(v'.ownBlock=v.ownBlock∨v'.ownBlock=some w.heap.size):=by
 obtain⟨v',w',hr,hO,hg,hat⟩:=za9 (P:=Tryz.prog) w base 50 50 3 (.int .i64 0) 1 8 zcX zq0 rfl (by decide) v x l.length m.length _ _ h hx.1
  (by intro u hu;obtain⟨c,-,rfl⟩:=List.mem_map.1 hu;rfl) (by omega) (by omega) hbase
 refine⟨v',w',hr,?_,hg,hat⟩
 unfold zaN
 rw[List.length_append,List.map_append]
 exact hO
theorem zi6 {w:World}{v:Value}{l:List Int}(h:zaI w v l)(hl:l.length≤17592186044416) :
  Calls Tryz.prog 63 #[v] w fun e w'=>∃ v',e= .returned v'∧zaN w' w.heap.size v' l∧Below w.heap.size w w':=by
 have H:=hid h
 obtain⟨hlen,a,cap,rfl,hnil,-⟩:=h.open
 obtain⟨n,HN⟩:∃ n,Hid (n=l.length):=⟨_,rfl⟩
 rw[←HN.out] at hlen H hl ⊢
 clear h
 cases a with
 | none =>
  have:=hnil rfl
  have HE:Hid (l=[]):=List.eq_nil_of_length_eq_zero (by have:=HN.out;obtain⟨-,-,a',c',e,h1,-⟩:=H.out.1;cases e;omega)
  clear hlen hl
  go_enter Tryz.func63,Tryz.ntmps63
  have eqn:=fun W a n c n' c'=>Lib.run_eql_slice_nil (P:=Tryz.prog) W 50 _ a n c n' c' zcX
  go_wp2
  go_ret
  refine⟨_,rfl,?_,Below.refl _ _⟩
  rw[HE.out]
  exact World.ownsRow_nil _ _ _ _
 | some ad =>
  have hO:zaN (w.alloc (.cells #[] 3)) w.heap.size (.slice (some ⟨w.heap.size,0,none⟩) 0 0) []:=by
   exact World.ownsRow_made (base:=w.heap.size) (e:=3) (size:=1) w #[] 0 (Nat.le_refl _) (by unfold maxLen;omega) rfl
  obtain⟨v',w',hr,hO',hg,-⟩:=zb9 hO (H.out.below ((Below.refl _ _).alloc (Nat.le_refl _) _)) (by rw[←HN.out];simp;omega) (by simp)
  have hg':Below w.heap.size w w':=((Below.refl w.heap.size w).alloc (Nat.le_refl _) (.cells #[] 3)).grown hg (by simp) (by intro q e;simp[Value.ownBlock] at e;omega)
  have HO:=hid hO'
  have HG:=hid hg'
  clear hO' hg' hg hO
  go_enter Tryz.func63,Tryz.ntmps63
  have eqn:=fun W a n c n' c'=>Lib.run_eql_slice_nil (P:=Tryz.prog) W 50 _ a n c n' c' zcX
  go_wp2_with (at_builtin;refine zac rfl _ _ _ rfl _ _ rfl rfl hr ?_)
  go_ret
  exact⟨_,rfl,HO.out,HG.out⟩
/-! Two lists,from a place on -/
theorem zdc {α:Type}{l:List α}{i:Nat}{x:α}(h:l[i]?=some x):l.drop i=x::l.drop (i+1):=by
 obtain⟨hl,e⟩:=List.getElem?_eq_some_iff.1 h
 rw[List.drop_eq_getElem_cons hl,e]
theorem zfq {l:List Int}{n i:Nat}(hn:n=l.length)(h:i<n):∃ x,l[i]?=some x:=⟨_,List.getElem?_eq_getElem (by omega)⟩
theorem zpt {l m:List Int}{i:Nat}{x y:Int}(hx:l[i]?=some x)(hy:m[i]?=some y):(l.drop i=m.drop i)↔x=y∧l.drop (i+1)=m.drop (i+1):=by
 rw[zdc hx,zdc hy,List.cons.injEq]
theorem zio {w:World}{v u:Value}{l m:List Int}(h:zaI w v l)(hu:zaI w u m) :
  Calls Tryz.prog 36 #[v,u] w fun e w'=>e= .returned (.bool (decide (l=m)))∧zen w w':=by
 obtain⟨hl,a,c,rfl,-,hat⟩:=h.open
 obtain⟨hm,a2,c2,rfl,-,hbt⟩:=hu.open
 obtain⟨n,HN⟩:∃ n,Hid (n=l.length):=⟨_,rfl⟩
 obtain⟨n2,HN2⟩:∃ n,Hid (n=m.length):=⟨_,rfl⟩
 rw[←HN.out] at hl ⊢
 rw[←HN2.out] at hm ⊢
 obtain⟨z,HZ⟩:∃ z,Hid (z=decide (l=m)):=⟨_,rfl⟩
 rw[←HZ.out]
 have HAT:=hid hat
 have HBT:=hid hbt
 clear hat hbt h hu
 by_cases hnn:n=n2
 ·
  subst hnn
  go_enter Tryz.func36,Tryz.ntmps36
  go_wp2_with fail
  go_loopw [5] (fun v5 wr=>∃ i:Nat,v5= .int .i64 i∧i≤n∧Hid (z=decide (l.drop i=m.drop i))∧(∃ k,wr=w.drewN k)) (fun v5 _=>n - (intOf v5).toNat)
  case atStart=>exact⟨0,rfl,by omega,by rw[Hid,HZ.out];simp,0,rfl⟩
  case round =>
   obtain⟨i,rfl,hi,HI,kw,rfl⟩:=hrel
   by_cases h1:i<n
   ·
    obtain⟨x,hxi⟩:=zfq HN.out h1
    obtain⟨y,hyi⟩:=zfq HN2.out h1
    obtain⟨hx64,b,o,ha,g0⟩:=HAT.out i x hxi
    obtain⟨hy64,b2,o2,ha2,g2⟩:=HBT.out i y hyi
    have HC:=hid (zpt hxi hyi)
    have hix:=zad Tryz.underlying50 zcH ha i h1 (cap:=c)
    have hix2:=zad Tryz.underlying50 zcH ha2 i h1 (cap:=c2)
    clear hxi hyi ha ha2
    by_cases hxy:x=y
    ·
     have HC1:Hid (z=decide (l.drop (i+1)=m.drop (i+1))):=by
      rw[Hid,HI.out,decide_eq_decide,HC.out];simp[hxy]
     have hb1:(x != y)=false:=by simpa using hxy
     have hb2:(x == y)=true:=by simpa using hxy
     have HXY:=hid hxy
     clear hxy
     go_wp2_with fail
     go_quiet (fail)
     go_wp2_with fail
     go_roundw
     case rel=>exact⟨i+1,by go_num,h1,HC1.out,_,rfl⟩
     case measure=>simp[intOf];omega
    ·
     have HC1:Hid (z=false):=by
      rw[Hid,HI.out,decide_eq_false_iff_not,HC.out];simp[hxy]
     have hb1:(x != y)=true:=by simpa using hxy
     have hb2:(x == y)=false:=by simpa using hxy
     have HXY:=hid hxy
     clear hxy
     go_wp2_with fail
     go_quiet (fail)
     go_wp2_with fail
     go_ret
     exact⟨by rw[HC1.out];first|done|rfl,_,World.drewN_drewN _ _ _⟩
   ·
    obtain rfl:i=n:=by omega
    have HC1:Hid (z=true):=by
     rw[Hid,HI.out,List.drop_eq_nil_of_le (by rw[←HN.out];omega),List.drop_eq_nil_of_le (by rw[←HN2.out];omega)];simp
    go_wp2_with fail
    go_ret
    exact⟨by rw[HC1.out];first|done|rfl,_,rfl⟩
 ·
  have HC1:Hid (z=false):=by
   rw[Hid,HZ.out,decide_eq_false_iff_not];rintro rfl;exact hnn (by rw[HN.out,HN2.out])
  have e1:decide ((n:Int)=n2)=false:=decide_eq_false (by omega)
  have e2:((n:Int) == n2)=false:=by simp;omega
  have e3:(n == n2)=false:=by simp;omega
  clear hnn
  go_enter Tryz.func36,Tryz.ntmps36
  go_wp2_with fail
  go_ret
  exact⟨by rw[HC1.out];first|done|rfl,0,rfl⟩
theorem zi7 {w:World}{v u:Value}{l m:List Int}(h:zaI w v l)(hu:zaI w u m) :
  Calls Tryz.prog 100 #[v,u] w fun e w'=>e= .returned (.bool (decide (l=m)))∧zen w w':=by
 obtain⟨hl,a,c,rfl,-,hat⟩:=h.open
 obtain⟨hm,a2,c2,rfl,-,hbt⟩:=hu.open
 obtain⟨n,HN⟩:∃ n,Hid (n=l.length):=⟨_,rfl⟩
 obtain⟨n2,HN2⟩:∃ n,Hid (n=m.length):=⟨_,rfl⟩
 rw[←HN.out] at hl ⊢
 rw[←HN2.out] at hm ⊢
 obtain⟨z,HZ⟩:∃ z,Hid (z=decide (l=m)):=⟨_,rfl⟩
 rw[←HZ.out]
 have HAT:=hid hat
 have HBT:=hid hbt
 clear hat hbt h hu
 by_cases hnn:n=n2
 ·
  subst hnn
  go_enter Tryz.func100,Tryz.ntmps100
  go_wp2_with fail
  go_loopw [13] (fun v5 wr=>∃ i:Nat,v5= .int .i64 i∧i≤n∧Hid (z=decide (l.drop i=m.drop i))∧(∃ k,wr=w.drewN k)) (fun v5 _=>n - (intOf v5).toNat)
  case atStart=>exact⟨0,rfl,by omega,by rw[Hid,HZ.out];simp,0,rfl⟩
  case round =>
   obtain⟨i,rfl,hi,HI,kw,rfl⟩:=hrel
   by_cases h1:i<n
   ·
    obtain⟨x,hxi⟩:=zfq HN.out h1
    obtain⟨y,hyi⟩:=zfq HN2.out h1
    obtain⟨hx64,b,o,ha,g0⟩:=HAT.out i x hxi
    obtain⟨hy64,b2,o2,ha2,g2⟩:=HBT.out i y hyi
    have HC:=hid (zpt hxi hyi)
    have hix:=zad Tryz.underlying50 zcH ha i h1 (cap:=c)
    have hix2:=zad Tryz.underlying50 zcH ha2 i h1 (cap:=c2)
    clear hxi hyi ha ha2
    by_cases hxy:x=y
    ·
     have HC1:Hid (z=decide (l.drop (i+1)=m.drop (i+1))):=by
      rw[Hid,HI.out,decide_eq_decide,HC.out];simp[hxy]
     have hb1:(x != y)=false:=by simpa using hxy
     have hb2:(x == y)=true:=by simpa using hxy
     have HXY:=hid hxy
     clear hxy
     go_wp2_with fail
     go_quiet (fail)
     go_wp2_with fail
     go_roundw
     case rel=>exact⟨i+1,by go_num,h1,HC1.out,_,rfl⟩
     case measure=>simp[intOf];omega
    ·
     have HC1:Hid (z=false):=by
      rw[Hid,HI.out,decide_eq_false_iff_not,HC.out];simp[hxy]
     have hb1:(x != y)=true:=by simpa using hxy
     have hb2:(x == y)=false:=by simpa using hxy
     have HXY:=hid hxy
     clear hxy
     go_wp2_with fail
     go_quiet (fail)
     go_wp2_with fail
     go_ret
     exact⟨by rw[HC1.out];first|done|rfl,_,World.drewN_drewN _ _ _⟩
   ·
    obtain rfl:i=n:=by omega
    have HC1:Hid (z=true):=by
     rw[Hid,HI.out,List.drop_eq_nil_of_le (by rw[←HN.out];omega),List.drop_eq_nil_of_le (by rw[←HN2.out];omega)];simp
    go_wp2_with fail
    go_ret
    exact⟨by rw[HC1.out];first|done|rfl,_,rfl⟩
 ·
  have HC1:Hid (z=false):=by
   rw[Hid,HZ.out,decide_eq_false_iff_not];rintro rfl;exact hnn (by rw[HN.out,HN2.out])
  have e1:decide ((n:Int)=n2)=false:=decide_eq_false (by omega)
  have e2:((n:Int) == n2)=false:=by simp;omega
  have e3:(n == n2)=false:=by simp;omega
  clear hnn
  go_enter Tryz.func100,Tryz.ntmps100
  go_wp2_with fail
  go_ret
  exact⟨by rw[HC1.out];first|done|rfl,0,rfl⟩
/-! The order of ways -/
def zkV:List Int→List Int→Int
 | [],[]=>0
 | [],_::_=> -1
 | _::_,[]=>1
 | x::a,y::b=>if x<y then -1 else if y<x then 1 else zkV a b
theorem zmQ:∀ a b,zkV a b<0↔ltW a b=true
 | [],[]=>by simp[zkV,ltW]
 | [],_::_=>by simp[zkV,ltW]
 | _::_,[]=>by simp[zkV,ltW]
 | x::a,y::b=>by
  have ih:=zmQ a b
  simp only[zkV,ltW]
  by_cases h1:x<y
  ·
   rw[if_pos h1,if_neg (by omega)];simp[h1]
  ·
   rw[if_neg h1]
   by_cases h2:y<x
   ·
    rw[if_pos h2,if_neg (by omega)];simp;omega
   ·
    rw[if_neg h2,if_pos (by omega)];exact ih
theorem zrW (a b:List Int):decide (zkV a b<0)=ltW a b:=by
 rw[Bool.eq_iff_iff,decide_eq_true_iff];exact zmQ a b
theorem zrX {l m:List Int}{i:Nat}{x y:Int}(hx:l[i]?=some x)(hy:m[i]?=some y):zkV (l.drop i) (m.drop i)=if x<y then -1 else if y<x then 1 else zkV (l.drop (i+1)) (m.drop (i+1)):=by
 rw[zdc hx,zdc hy,zkV]
theorem zkW {l m:List Int}{i:Nat}(hx:l.length≤i):zkV (l.drop i) (m.drop i)=if i<m.length then -1 else 0:=by
 rw[List.drop_eq_nil_of_le hx]
 split
 ·
  rename_i h;rw[List.drop_eq_getElem_cons h];rfl
 ·
  rw[List.drop_eq_nil_of_le (by omega)];rfl
theorem zpu {l m:List Int}{i:Nat}(hx:i<l.length)(hy:m.length≤i):zkV (l.drop i) (m.drop i)=1:=by
 rw[List.drop_eq_nil_of_le hy,List.drop_eq_getElem_cons hx];rfl
theorem zdd (x y:Int)(w:World) :
  Calls Tryz.prog 99 #[.int .i64 x,.int .i64 y] w fun e w'=>e= .returned (.int .i64 (if x<y then -1 else if y<x then 1 else 0))∧w=w':=by
 by_cases h1:x<y
 ·
  rw[if_pos h1]
  have e2:¬ y<x:=by omega
  go_enter Tryz.func99,Tryz.ntmps99
  go_wp2
  go_ret
  exact⟨rfl,rfl⟩
 ·
  rw[if_neg h1]
  by_cases h2:y<x
  ·
   rw[if_pos h2]
   go_enter Tryz.func99,Tryz.ntmps99
   go_wp2
   go_ret
   exact⟨rfl,rfl⟩
  ·
   rw[if_neg h2]
   go_enter Tryz.func99,Tryz.ntmps99
   go_wp2
   go_ret
   exact⟨rfl,rfl⟩
theorem zkX {w:World}{v u:Value}{l m:List Int}(h:zaI w v l)(hu:zaI w u m) :
  Calls Tryz.prog 61 #[v,u] w fun e w'=>e= .returned (.int .i64 (zkV l m))∧w'=w:=by
 obtain⟨hl,a,c,rfl,-,hat⟩:=h.open
 obtain⟨hm,a2,c2,rfl,-,hbt⟩:=hu.open
 obtain⟨n,HN⟩:∃ n,Hid (n=l.length):=⟨_,rfl⟩
 obtain⟨n2,HN2⟩:∃ n,Hid (n=m.length):=⟨_,rfl⟩
 rw[←HN.out] at hl ⊢
 rw[←HN2.out] at hm ⊢
 obtain⟨z,HZ⟩:∃ z,Hid (z=zkV l m):=⟨_,rfl⟩
 rw[←HZ.out]
 have HAT:=hid hat
 have HBT:=hid hbt
 clear hat hbt h hu
 go_enter Tryz.func61,Tryz.ntmps61
 go_wp2_with fail
 go_loop [11] (fun v5=>∃ i:Nat,v5= .int .i64 i∧i≤n∧i≤n2∧Hid (z=zkV (l.drop i) (m.drop i))) (fun v5=>n - (intOf v5).toNat)
 case atStart=>exact⟨0,rfl,by omega,by omega,by rw[Hid,HZ.out];simp⟩
 case round =>
  obtain⟨i,rfl,hi,hi2,HI⟩:=hrel
  by_cases h1:i<n
  ·
   obtain⟨x,hxi⟩:=zfq HN.out h1
   obtain⟨hx64,b,o,ha,g0⟩:=HAT.out i x hxi
   have hix:=zad Tryz.underlying50 zcH ha i h1 (cap:=c)
   by_cases h2:i<n2
   ·
    obtain⟨y,hyi⟩:=zfq HN2.out h2
    obtain⟨hy64,b2,o2,ha2,g2⟩:=HBT.out i y hyi
    have HC:=hid (zrX hxi hyi)
    have hix2:=zad Tryz.underlying50 zcH ha2 i h2 (cap:=c2)
    have hge:¬ (n2≤i):=by omega
    clear hxi hyi ha ha2
    obtain⟨q,HQ⟩:∃ q,Hid (q=(if x<y then -1 else if y<x then 1 else 0:Int)):=⟨_,rfl⟩
    by_cases hq:q=0
    ·
     have HC1:Hid (z=zkV (l.drop (i+1)) (m.drop (i+1))):=by
      have e1:¬ x<y:=fun h=>by have:=HQ.out;rw[if_pos h] at this;omega
      have e2:¬ y<x:=fun h=>by have:=HQ.out;rw[if_neg e1,if_pos h] at this;omega
      rw[Hid,HI.out,HC.out,if_neg e1,if_neg e2]
     subst hq
     go_wp2_with (go_at_call 99;refine (zdd x y _).mono ?_;rintro e w' ⟨rfl,rfl⟩;rw[←HQ.out])
     go_round
     case rel=>exact⟨i+1,by go_num,h1,h2,HC1.out⟩
     case measure=>simp[intOf];omega
    ·
     have HC1:Hid (z=q):=by
      rw[Hid,HI.out,HC.out,HQ.out]
      by_cases e1:x<y
      ·
       rw[if_pos e1,if_pos e1]
      ·
       rw[if_neg e1,if_neg e1]
       by_cases e2:y<x
       ·
        rw[if_pos e2,if_pos e2]
       ·
        exact absurd (by rw[HQ.out,if_neg e1,if_neg e2]) hq
     have hb1:(q != 0)=true:=by simpa using hq
     have hb2:(q == 0)=false:=by simpa using hq
     clear hq
     go_wp2_with (go_at_call 99;refine (zdd x y _).mono ?_;rintro e w' ⟨rfl,rfl⟩;rw[←HQ.out])
     go_ret
     exact⟨by rw[HC1.out];first|done|rfl,rfl⟩
   ·
    have HC1:Hid (z=1):=by
     rw[Hid,HI.out,zpu (by rw[←HN.out];exact h1) (by rw[←HN2.out];omega)]
    have hge:n2≤i:=by omega
    clear hxi ha
    go_wp2_with fail
    go_ret
    exact⟨by rw[HC1.out];first|done|rfl,rfl⟩
  ·
   obtain rfl:i=n:=by omega
   by_cases h2:i<n2
   ·
    have HC1:Hid (z= -1):=by
     rw[Hid,HI.out,zkW (by rw[←HN.out];omega),if_pos (by rw[←HN2.out];exact h2)]
    go_wp2_with fail
    go_ret
    exact⟨by rw[HC1.out];first|done|rfl,rfl⟩
   ·
    have HC1:Hid (z=0):=by
     rw[Hid,HI.out,zkW (by rw[←HN.out];omega),if_neg (by rw[←HN2.out];exact h2)]
    go_wp2_with fail
    go_ret
    exact⟨by rw[HC1.out];first|done|rfl,rfl⟩
theorem zaI.h {w:World}{a:Option Addr}{n cap:Nat}{l:List Int}(h:zaI w (.slice a n cap) l)(hn:n=l.length)(j:Nat)(hj:j≤n) :
  ∃ a' cap',(∀ W,(Instr.slice 50 (.slice a n cap) none (some (.int .i64 (j:Int))) none).run Tryz.prog W= .ok (.slice a' j cap') W)∧zaI w (.slice a' j cap') (l.take j):=by
 subst hn
 have hcap:l.length≤cap:=by obtain⟨⟨_,_,a',cap',hv,h3,_⟩,-⟩:=h;cases hv;exact h3
 have hr:=fun W=>zcY (P:=Tryz.prog) zcX zcH a l.length cap j (by omega) W
 have hs:=Seg.sub h.1 0 j (by omega) hj
 unfold sliced at hr hs
 refine⟨_,_,hr,⟨?_,fun x hx=>h.2 x (List.mem_of_mem_take hx)⟩⟩
 rw[List.length_take,Nat.min_eq_left (by omega),List.map_take]
 simpa using hs
theorem zl1 {w:World}{v u:Value}{l m:List Int}(h:zaI w v l)(hu:zaI w u m) :
  Calls Tryz.prog 62 #[v,u] w fun e w'=>e= .returned (.bool (zd7 l m))∧zen w w':=by
 have H:=hid h
 have HU:=hid hu
 obtain⟨hl,a,c,rfl,-,-⟩:=h.open
 obtain⟨hm,a2,c2,rfl,-,-⟩:=hu.open
 obtain⟨n,HN⟩:∃ n,Hid (n=l.length):=⟨_,rfl⟩
 obtain⟨n2,HN2⟩:∃ n,Hid (n=m.length):=⟨_,rfl⟩
 rw[←HN.out] at hl H ⊢
 rw[←HN2.out] at hm HU ⊢
 obtain⟨z,HZ⟩:∃ z,Hid (z=zd7 l m):=⟨_,rfl⟩
 rw[←HZ.out]
 clear h hu
 by_cases hn:n2≤n
 ·
  obtain⟨a',c',hsl,hI⟩:=H.out.h HN.out n2 hn
  have HI:=hid hI
  have HZ2:Hid (decide (l.take n2=m)=z):=by
   rw[Hid,HZ.out,zd7,←HN2.out,←HN.out,decide_eq_true hn,Bool.true_and]
  clear hI
  go_enter Tryz.func62,Tryz.ntmps62
  go_wp2_with (go_at_call 100;refine (zi7 HI.out HU.out).mono ?_;rintro e w' ⟨rfl,kw,rfl⟩;rw[HZ2.out])
  go_ret
  exact⟨rfl,_,rfl⟩
 ·
  have HZ2:Hid (z=false):=by
   rw[Hid,HZ.out,zd7,←HN2.out,←HN.out,decide_eq_false hn,Bool.false_and]
  have hn2:¬ ((n2:Int)≤n):=by omega
  go_enter Tryz.func62,Tryz.ntmps62
  go_wp2_with fail
  go_ret
  exact⟨by rw[HZ2.out];first|done|rfl,0,rfl⟩
theorem zgn {w W:World}{ops:Array Oper}{rest:List Oper}{o:Oper}{a:Act}{Q:Exit→Act→World→Prop}(hgd:o.guard=none)(s x:Operand)
  (ho:o.op= .call { callee:=.builtin .append,args:=#[s,x],argTypes:=#[50,50] }) (hty:o.type=50) (v:Value) (y:Int) (q:Nat) (hs:a.eval s=v) (hx:a.eval x= .slice (some ⟨q,0,none⟩) 1 1) (hw:w=W.alloc (.cells #[.int .i64 y] 3)) (hq:q=W.heap.size)
  (base:Nat) (l:List Int) (hown:zaN W base v l) (hy:zbi y) (hl:l.length≤1099511627776) (hb:base≤W.heap.size)
  (h:∀ a' c' w',zaN w' base (.slice a' (l.length+1) c') (l++[y])→(∀ w0:World,Below base w0 W→Below base w0 w')→(∀ b,b<W.heap.size→v.ownBlock≠some b→w'.heap[b]?=W.heap[b]?)→wpList Tryz.prog ops Q rest (a.put o.dst (.slice a' (l.length+1) c')) w'):wpList Tryz.prog ops Q (o::rest) a w:=by
 subst hw
 subst hq
 have hA:Below W.heap.size W (W.alloc (.cells #[.int .i64 y] 3)):=(Below.refl _ _).alloc (Nat.le_refl _) _
 have hI:zaI (W.alloc (.cells #[.int .i64 y] 3)) (.slice (some ⟨W.heap.size,0,none⟩) 1 1) [y]:=by
  refine⟨⟨rfl,by simp,_,_,rfl,Nat.le_refl _,by simp,by simp,fun j u hu=>⟨_,_,rfl,?_⟩⟩,by simpa using hy⟩
  rw[Nat.zero_add,cell_of_row _ _ _ #[.int .i64 y] _ (0,0) (heap_alloc_new W _)]
  simpa [intV] using hu
 obtain⟨v',w',hr,hO,hg,-⟩:=zb9 (hown.later hA) hI (by simp;omega) (by simp;omega)
 obtain⟨a',c',e⟩:=hO.form
 rw[List.length_append] at e
 have e':v'= .slice a' (l.length+1) c':=e
 subst e'
 refine zac hgd s x 50 ho v _ hs hx (by rw[hty];exact hr) (h a' c' w' hO (fun w0 hb0=>?_) fun b hb2 hne=>(hg.block b (by simp;omega) (fun e=>hne e.symm)).trans (Below.heap_alloc W _ b hb2))
 exact (hb0.alloc hb _).grown hg (by have:=hb0.size;simp;omega) (fun q e=>(World.ownsRow.lt hown q e).1)
end
section
open Go.RowKit
theorem zhK (w:World):(sizeOf 3).run Tryz.prog w= .ok 1 w:=by kernel_rfl
theorem Seg.hd1 {P:Program}{t e:TypeId}(ht:P.underlying t=some (.slice e))(hs:∀ w:World,(sizeOf e).run P w= .ok 1 w){w:World}{a:Option Addr}{n cap:Nat}{xs:List Value}(h:Seg w (.slice a n cap) 1 n xs)(j:Nat)(hj:j≤n) :
  ∃ a' cap',(∀ W,(Instr.slice t (.slice a n cap) none (some (.int .i64 (j:Int))) none).run P W= .ok (.slice a' j cap') W)∧Seg w (.slice a' j cap') 1 j (xs.take j):=by
 have hcap:n≤cap:=by obtain⟨_,_,a',cap',hv,h3,_⟩:=h;cases hv;exact h3
 have hr:=fun W=>zcY ht hs a n cap j (by omega) W
 have hsb:=Seg.sub h 0 j (by omega) hj
 unfold sliced at hr hsb
 refine⟨_,_,hr,?_⟩
 simpa using hsb
theorem Seg.tl1 {P:Program}{t e:TypeId}(ht:P.underlying t=some (.slice e))(hs:∀ w:World,(sizeOf e).run P w= .ok 1 w){w:World}{a:Option Addr}{n cap:Nat}{xs:List Value}(h:Seg w (.slice a n cap) 1 n xs)(i:Nat)(hi:i≤n) :
  ∃ a' cap',(∀ W,(Instr.slice t (.slice a n cap) (some (.int .i64 (i:Int))) none none).run P W= .ok (.slice a' (n - i) cap') W)∧Seg w (.slice a' (n - i) cap') 1 (n - i) (xs.drop i):=by
 have hr:=fun W=>zhf ht hs a n cap i hi W
 have hsb:=Seg.sub h i n hi (Nat.le_refl _)
 have hl:=h.1
 unfold sliced at hr hsb
 refine⟨_,_,hr,?_⟩
 rw[List.take_of_length_le (by simp[hl])] at hsb
 simpa using hsb
theorem zrY {w:World}{a:Option Addr}{n cap:Nat}{l:List Int}(h:zaI w (.slice a n cap) l)(hn:n=l.length)(j:Nat)(hj:j≤n) :
  ∃ a' cap',(∀ W,(Instr.slice 50 (.slice a n cap) none (some (.int .i64 (j:Int))) none).run Tryz.prog W= .ok (.slice a' j cap') W)∧zaI w (.slice a' j cap') (l.take j):=by
 obtain⟨h1,h2⟩:=h
 rw[←hn] at h1
 obtain⟨a',c',hr,hs⟩:=Seg.hd1 (P:=Tryz.prog) zcX zhK h1 j hj
 refine⟨a',c',hr,?_,fun x hx=>h2 x (List.mem_of_mem_take hx)⟩
 rw[show (l.take j).length=j by rw[List.length_take];omega,List.map_take]
 exact hs
theorem zrZ {w:World}{a:Option Addr}{n cap:Nat}{l:List Int}(h:zaI w (.slice a n cap) l)(hn:n=l.length)(i:Nat)(hi:i≤n) :
  ∃ a' cap',(∀ W,(Instr.slice 50 (.slice a n cap) (some (.int .i64 (i:Int))) none none).run Tryz.prog W= .ok (.slice a' (n - i) cap') W)∧zaI w (.slice a' (n - i) cap') (l.drop i):=by
 obtain⟨h1,h2⟩:=h
 rw[←hn] at h1
 obtain⟨a',c',hr,hs⟩:=Seg.tl1 (P:=Tryz.prog) zcX zhK h1 i hi
 refine⟨a',c',hr,?_,fun x hx=>h2 x (List.mem_of_mem_drop hx)⟩
 rw[show (l.drop i).length=n - i by rw[List.length_drop];omega,List.map_drop]
 exact hs
theorem zl2 (W:World)(y:Int)(hy:zbi y):zaI (W.alloc (.cells #[.int .i64 y] 3)) (.slice (some ⟨W.heap.size,0,none⟩) 1 1) [y]:=by
 refine⟨⟨rfl,by simp,_,_,rfl,Nat.le_refl _,by simp,by simp,fun j u hu=>⟨_,_,rfl,?_⟩⟩,by simpa using hy⟩
 rw[Nat.zero_add,cell_of_row _ _ _ #[.int .i64 y] _ (0,0) (heap_alloc_new W _)]
 simpa [intV] using hu
theorem zpv {w:World}{base base' size n:Nat}{e:TypeId}{v:Value}{xs:List Value}(h:w.ownsRow base e size v n xs)(hb:base'≤base):w.ownsRow base' e size v n xs:=by
 refine⟨h.1,?_⟩
 rcases h.2 with h2|⟨g,cap,cur,hv,hg,h3⟩
 ·
  exact .inl h2
 ·
  exact .inr ⟨g,cap,cur,hv,by omega,h3⟩
theorem zkY {w:World}{base i k:Nat}{oa:Option Addr}{oc:Nat}{l:List Int}(h:zaI w (.slice oa i oc) l)(hi:i=l.length)(hi40:i≤549755813888)(hk:k≤i)(y:Int)(hy:zbi y)(hb:base≤w.heap.size) :
  ∃ a5 c5 a6 c6 w6 a8 c8 w8 a9 c9 a10 c10 w10,
   (∀ W,(Instr.slice 50 (.slice oa i oc) none (some (.int .i64 (k:Int))) none).run Tryz.prog W= .ok (.slice a5 k c5) W) ∧
   (Builtin.append_ #[50,50] 50 #[.slice (some ⟨w.heap.size,0,none⟩) 0 0,.slice a5 k c5]).run Tryz.prog (w.alloc (.cells #[] 3))= .ok (.slice a6 k c6) w6 ∧
   (Builtin.append_ #[50,50] 50 #[.slice a6 k c6,.slice (some ⟨w6.heap.size,0,none⟩) 1 1]).run Tryz.prog (w6.alloc (.cells #[.int .i64 y] 3))= .ok (.slice a8 (k+1) c8) w8 ∧
   (∀ W,(Instr.slice 50 (.slice oa i oc) (some (.int .i64 (k:Int))) none none).run Tryz.prog W= .ok (.slice a9 (i - k) c9) W) ∧
   (Builtin.append_ #[50,50] 50 #[.slice a8 (k+1) c8,.slice a9 (i - k) c9]).run Tryz.prog w8= .ok (.slice a10 (i+1) c10) w10 ∧
   zaN w10 base (.slice a10 (i+1) c10) (l.take k++y::l.drop k)∧Below w.heap.size w w10:=by
 have own0:zaN (w.alloc (.cells #[] 3)) w.heap.size (.slice (some ⟨w.heap.size,0,none⟩) 0 0) []:=World.ownsRow_made (base:=w.heap.size) (e:=3) (size:=1) w #[] 0 (Nat.le_refl _) (by unfold maxLen;omega) rfl
 have hA:Below w.heap.size w (w.alloc (.cells #[] 3)):=(Below.refl _ _).alloc (Nat.le_refl _) _
 obtain⟨a5,c5,hs5,I5⟩:=zrY h hi k hk
 have hl5:(l.take k).length=k:=by rw[List.length_take];omega
 obtain⟨v6,w6,hr6,own6,hg6,-⟩:=zb9 own0 (I5.below hA) (by rw[hl5];simp;omega) (by simp)
 have hB6:Below w.heap.size w w6:=hA.grown hg6 (by simp) (by intro q e;simp[Value.ownBlock] at e;omega)
 obtain⟨a6,c6,e6⟩:=own6.form
 rw[List.nil_append,hl5] at e6
 rw[List.nil_append] at own6
 subst e6
 have hA6:Below w6.heap.size w6 (w6.alloc (.cells #[.int .i64 y] 3)):=(Below.refl _ _).alloc (Nat.le_refl _) _
 obtain⟨v8,w8,hr8,own8,hg8,-⟩:=zb9 (own6.later hA6) (zl2 w6 y hy) (by rw[hl5];simp;omega) (by have:=hB6.size;simp;omega)
 have hB8:Below w.heap.size w w8:=(hB6.alloc hB6.size _).grown hg8 (by have:=hB6.size;simp;omega) (fun q e=>(World.ownsRow.lt own6 q e).1)
 obtain⟨a8,c8,e8⟩:=own8.form
 rw[List.length_append,hl5] at e8
 have e8':v8= .slice a8 (k+1) c8:=e8
 subst e8'
 obtain⟨a9,c9,hs9,I9⟩:=zrZ h hi k hk
 have hl9:(l.drop k).length=i - k:=by rw[List.length_drop];omega
 obtain⟨v10,w10,hr10,own10,hg10,-⟩:=zb9 own8 (I9.below hB8) (by rw[List.length_append,hl5,hl9];simp;omega) hB8.size
 have hB10:Below w.heap.size w w10:=hB8.grown hg10 hB8.size (fun q e=>(World.ownsRow.lt own8 q e).1)
 obtain⟨a10,c10,e10⟩:=own10.form
 have hl10:(l.take k++[y]++l.drop k).length=i+1:=by simp only[List.length_append,hl5,hl9,List.length_singleton];omega
 rw[hl10] at e10
 subst e10
 refine⟨a5,c5,a6,c6,w6,a8,c8,w8,a9,c9,a10,c10,w10,hs5,hr6,hr8,hs9,hr10,?_,hB10⟩
 rw[List.append_assoc] at own10
 exact zpv own10 hb
theorem zkZ {w:World}{v:Value}{fs:List Fld}(nm:ByteArray)(h:zaC w v fs)(hl:fs.length≤549755813888) :
  Calls Tryz.prog 37 #[.agg #[.string nm,v]] w fun e w'=>∃ v',e= .returned v'∧zaN w' w.heap.size v' (zaL fs)∧Below w.heap.size w w':=by
 have HF:=hid h
 obtain⟨-,a,cap,rfl,-⟩:=h.open
 obtain⟨n,HN⟩:∃ n,Hid (n=fs.length):=⟨_,rfl⟩
 rw[←HN.out] at hl HF ⊢
 obtain⟨w1,HW1⟩:∃ w1,Hid (w1=w.alloc (.cells #[.string nm,.slice a n cap] 76)):=⟨_,rfl⟩
 have hb1:Below w.heap.size w w1:=by rw[HW1.out];(with_reducible repeat first|exact Below.refl _ _|refine pzA ?_ _|refine pzB ?_ _|refine zab ?_ _|refine Below.drew ?_)
 have hbx:Blk w1 w.heap.size [.string nm,.slice a n cap] 76:=by rw[HW1.out];exact Blk.new w [.string nm,.slice a n cap] _
 have HB1:=hid hb1
 have HBX:=hid hbx
 have HAT:Hid (∀ k,k<n→∃ b o,a=some ⟨b,o,none⟩∧w1.cell? ⟨b,o+k*6+1,none⟩=some (.int .i64 (zdA fs (k:Int)))):=by
  obtain⟨-,a',cap',he,hat⟩:=(HF.out.below hb1).open
  cases he
  intro k hk
  obtain⟨b,o,ha,-,-,g1,-⟩:=hat k (by rw[←HN.out];exact hk)
  exact⟨b,o,ha,g1⟩
 obtain⟨Q,HQ⟩:∃ Q:Ending→World→Prop,Hid (Q=fun e w'=>∃ v',e= .returned v'∧zaN w' w.heap.size v' (zaL fs)∧Below w.heap.size w w'):=⟨_,rfl⟩
 rw[←HQ.out]
 clear h hb1 hbx
 go_enter Tryz.func37,Tryz.ntmps37
 go_wp2_with fail
 rw[←HW1.out]
 go_loopw [3,4] (fun v3 v4 wr=>∃ i:Nat,v4= .int .i64 (i:Int)∧i≤n∧Hid (zaN wr w.heap.size v3 (zcQ fs i)∧Below w1.heap.size w1 wr)) (fun _ v4 _=>n - (intOf v4).toNat)
 case atStart=>exact⟨0,rfl,by omega,World.ownsRow_nil _ _ _ _,Below.refl _ _⟩
 case round =>
  obtain⟨i,rfl,hi,HI⟩:=hrel
  obtain⟨oa,oc,hoe⟩:=HI.out.1.form
  rw[zcO] at hoe
  subst hoe
  have k1:=(HBX.out.below HI.out.2).cell 1 _ rfl
  by_cases hlt:i<n
  ·
   obtain⟨pw,HPW⟩:∃ pw,Hid (pw=zo4 fs (i:Int) (zcQ fs i)):=⟨_,rfl⟩
   have hpw:pw≤i:=by have:=zrT fs (i:Int) (zcQ fs i);rw[zcO] at this;rw[HPW.out];exact this
   have HPF:=hid (zkM fs (i:Int) (zcQ fs i))
   rw[←HPW.out] at HPF
   obtain⟨b,o,ha,g1⟩:=HAT.out i hlt
   have hix:=zae Tryz.underlying74 zbm ha i hlt (cap:=cap)
   have HG1:=hid g1
   have HA:=hid ha
   have HIA:Hid (zaI wr (.slice oa i oc) (zcQ fs i)):=HI.out.1.ints (by rw[zcO];omega) (fun x hx=>by
    have:=zdr.1 ((zb0 fs i).1.mem_iff.1 hx)
    constructor <;> omega)
   have HBW:Hid (Below w.heap.size w wr):=HB1.out.trans (HI.out.2.mono HB1.out.size)
   obtain⟨wo,rfl⟩:∃ wo:World,wo=wr:=⟨_,rfl⟩
   clear g1 ha
   go_wp2_with fail
   go_loopw [5] (fun v5 wr=>∃ k:Nat,v5= .int .i64 (k:Int)∧k≤pw∧Hid (zen wo wr)) (fun v5 _=>pw - (intOf v5).toNat)
   case atStart=>exact⟨0,rfl,by omega,zen.refl _⟩
   case round =>
    obtain⟨k,rfl,hk,HD⟩:=hrel
    replace k1:=HD.out.keeps _ _ k1
    have g1:=HD.out.keeps _ _ (zaa HI.out.2 _ _ HG1.out)
    obtain⟨y,HY⟩:∃ y,Hid (y=zdA fs (i:Int)):=⟨_,rfl⟩
    rw[←HY.out] at g1
    by_cases hki:k<i
    ·
     obtain⟨u,hu⟩:∃ u,(zcQ fs i)[k]?=some u:=⟨_,List.getElem?_eq_getElem (by rw[zcO];exact hki)⟩
     have hub:=zdr.1 ((zb0 fs i).1.mem_iff.1 (List.mem_of_getElem? hu))
     obtain⟨q,rfl⟩:∃ q:Nat,u=q:=⟨u.toNat,by omega⟩
     have hqn:q<n:=by omega
     obtain⟨b2,o2,ha2,g2⟩:=HAT.out q hqn
     have hix2:=zae Tryz.underlying74 zbm ha2 q hqn (cap:=cap)
     replace g2:=HD.out.keeps _ _ (zaa HI.out.2 _ _ g2)
     obtain⟨x,HX⟩:∃ x,Hid (x=zdA fs (q:Int)):=⟨_,rfl⟩
     rw[←HX.out] at g2
     obtain⟨-,oa',oc',hoe,-,hoat⟩:=HIA.out.open
     rw[zcO] at hoe
     cases hoe
     obtain⟨-,b3,o3,ha3,g3⟩:=hoat k _ hu
     have hix3:=zad Tryz.underlying50 zhK ha3 k hki (cap:=oc)
     replace g3:=HD.out.keeps _ _ g3
     have HU:=hid hu
     clear hu hub ha2 hoat ha3
     by_cases hkp:k<pw
     ·
      have hle:x≤y:=by
       obtain⟨u,hu,h1⟩:=HPF.out.1 k hkp
       rw[HU.out] at hu;cases hu
       rw[HX.out,HY.out];exact h1
      have hd:decide (x≤y)=true:=decide_eq_true hle
      clear hle
      go_wp2_with fail
      go_quiet (fail)
      go_wp2_with fail
      go_roundw
      case rel=>exact⟨k+1,by go_num,hkp,HD.out.step _⟩
      case measure=>simp[intOf];omega
     ·
      obtain rfl:k=pw:=by omega
      have hd:decide (x≤y)=false:=decide_eq_false (by have:=HPF.out.2 _ HU.out;rw[HX.out,HY.out];omega)
      clear hkp
      go_wp2_with fail
      go_quiet (fail)
      obtain⟨w3,HW3⟩:∃ w3,Hid (w3=wr.drewN nq):=⟨_,rfl⟩
      have HD3:Hid (zen wo w3):=by rw[HW3.out];exact HD.out.step _
      rw[←HW3.out]
      have hbo:Below wo.heap.size wo w3:=HD3.out.below
      obtain⟨a5,c5,a6,c6,w6,a8,c8,w8,a9,c9,a10,c10,w10,hs5,hr6,hr8,hs9,hr10,own10,hB10⟩:=zkY (base:=w.heap.size) (k:=k) (HIA.out.below hbo) (zcO fs i).symm (by omega) hpw (i:Int) (by constructor <;> omega) (Nat.le_trans HBW.out.size hbo.size)
      have HREL:Hid (zaN w10 w.heap.size (.slice a10 (i+1) c10) (zcQ fs (i+1))∧Below w1.heap.size w1 w10):=by
       refine⟨?_,zaf (zaf HI.out.2 hbo HI.out.2.size) hB10 (Nat.le_trans HI.out.2.size hbo.size)⟩
       rw[zcQ,insF,←HPW.out];exact own10
      clear hbo own10 hB10
      go_wp2_with (at_builtin;first|refine zac (o:=⟨some 42,_,_,_,_,_⟩) rfl _ _ _ rfl _ _ rfl rfl hr6 ?_|refine zac (o:=⟨some 46,_,_,_,_,_⟩) rfl _ _ _ rfl _ _ rfl rfl hr8 ?_|refine zac (o:=⟨some 51,_,_,_,_,_⟩) rfl _ _ _ rfl _ _ rfl rfl hr10 ?_)
      go_roundw
      case rel=>exact⟨i+1,by go_num,hlt,HREL.out⟩
      case measure=>simp[intOf];omega
    ·
     have hd1:decide ((k:Int)<(i:Int))=false:=decide_eq_false (by omega)
     have hd2:decide (k<i)=false:=decide_eq_false hki
     obtain rfl:k=pw:=by omega
     have HKI:=hid hki
     clear hki
     go_wp2_with fail
     go_quiet (fail)
     obtain⟨w3,HW3⟩:∃ w3,Hid (w3=wr.drewN nq):=⟨_,rfl⟩
     have HD3:Hid (zen wo w3):=by rw[HW3.out];exact HD.out.step _
     rw[←HW3.out]
     have hbo:Below wo.heap.size wo w3:=HD3.out.below
     obtain⟨a5,c5,a6,c6,w6,a8,c8,w8,a9,c9,a10,c10,w10,hs5,hr6,hr8,hs9,hr10,own10,hB10⟩:=zkY (base:=w.heap.size) (k:=k) (HIA.out.below hbo) (zcO fs i).symm (by omega) hpw (i:Int) (by constructor <;> omega) (Nat.le_trans HBW.out.size hbo.size)
     have HREL:Hid (zaN w10 w.heap.size (.slice a10 (i+1) c10) (zcQ fs (i+1))∧Below w1.heap.size w1 w10):=by
      refine⟨?_,zaf (zaf HI.out.2 hbo HI.out.2.size) hB10 (Nat.le_trans HI.out.2.size hbo.size)⟩
      rw[zcQ,insF,←HPW.out];exact own10
     clear hbo own10 hB10
     go_wp2_with (at_builtin;first|refine zac (o:=⟨some 42,_,_,_,_,_⟩) rfl _ _ _ rfl _ _ rfl rfl hr6 ?_|refine zac (o:=⟨some 46,_,_,_,_,_⟩) rfl _ _ _ rfl _ _ rfl rfl hr8 ?_|refine zac (o:=⟨some 51,_,_,_,_,_⟩) rfl _ _ _ rfl _ _ rfl rfl hr10 ?_)
     go_roundw
     case rel=>exact⟨i+1,by go_num,hlt,HREL.out⟩
     case measure=>simp[intOf];omega
  ·
   obtain rfl:i=n:=by omega
   go_wp2_with fail
   rw[HQ.out]
   have h1:zcQ fs i=zaL fs:=by rw[zaL,←HN.out]
   have h2:=HI.out.1
   rw[h1] at h2
   exact⟨_,rfl,h2,HB1.out.trans (HI.out.2.mono HB1.out.size)⟩
end
end Go.Proofs.YtpckoeicbjfnhaaGreatDoor
