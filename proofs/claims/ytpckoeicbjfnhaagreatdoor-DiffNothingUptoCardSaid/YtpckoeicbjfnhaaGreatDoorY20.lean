/- Slices of ints: what they hold; slices.Equal, slices.Clone, slices.Compare of ints; darningref07.SameInts. No condition. darningref07.Sorted: the places of the fields by rising numbers (sortedF). At most 2^39 fields. -/
import Derived.Test.YtpckoeicbjfnhaaGreatDoorY05
import Derived.Test.YtpckoeicbjfnhaaGreatDoorY07
import Derived.Test.YtpckoeicbjfnhaaGreatDoorY09
import Derived.Test.YtpckoeicbjfnhaaGreatDoorY15
import Derived.Test.YtpckoeicbjfnhaaGreatDoorY19
namespace Go.Proofs.YtpckoeicbjfnhaaGreatDoor
set_option maxRecDepth 100000
set_option maxHeartbeats 16000000
section
open Go.RowKit
def intV (x:Int):Value:=.int .i64 x
def zcS (x:Int):Prop:=-9223372036854775808≤x∧x≤9223372036854775807
def za1 (w:World)(v:Value)(l:List Int):Prop:=Seg w v 1 l.length (l.map intV)∧∀ x∈l,zcS x
theorem za1.keep {w w':World}{v:Value}{l:List Int}(h:za1 w v l)(hk:∀ p u,w.cell? p=some u→w'.cell? p=some u):za1 w' v l:=⟨h.1.keep hk,h.2⟩
theorem za1.below {w w':World}{v:Value}{l:List Int}(h:za1 w v l)(hb:Below w.heap.size w w'):za1 w' v l:=h.keep (zaa hb)
theorem za1.open {w:World}{v:Value}{l:List Int}(h:za1 w v l) :
  l.length≤140737488355328∧∃ a cap,v= .slice a l.length cap∧(a=none→cap=0)∧∀ k x,l[k]?=some x→zcS x∧∃ b o,a=some ⟨b,o,none⟩∧w.cell? ⟨b,o+k,none⟩=some (.int .i64 x):=by
 obtain⟨⟨_,h2,a,cap,hv,h3,h4,h5,h6⟩,hl⟩:=h
 refine⟨h2,a,cap,hv,h5,fun k t hk=>⟨hl _ (List.mem_of_getElem? hk),h6 k _ ?_⟩⟩
 simp[hk,intV]
theorem zcZ (w:World):(sizeOf 3).run Tryz.prog w= .ok 1 w:=by kernel_rfl
theorem zfu:Tryz.prog.underlying 50=some (.slice 3):=Tryz.underlying50
theorem zst:(Tryz.prog.info? 3).map (fun i=>(i.zero,i.size,i.bytes))=some (some (.int .i64 0),1,8):=by kernel_rfl
def za8 (w:World)(base:Nat)(v:Value)(l:List Int):Prop:=w.ownsRow base 3 1 v l.length (l.map intV)
theorem za8.ints {w:World}{base:Nat}{v:Value}{l:List Int}(h:za8 w base v l)(hn:l.length≤140737488355328)(hl:∀ x∈l,zcS x):za1 w v l:=⟨zbQ h hn,hl⟩
theorem za8.later {w w':World}{base:Nat}{v:Value}{l:List Int}(h:za8 w base v l)(hb:Below w.heap.size w w'):za8 w' base v l:=
 World.ownsRow.kept (row:=none) h (zbd hb none) (by cases hv:v.ownBlock with|none=>exact .inl rfl|some k=>exact .inr (by simp))
theorem za8.form {w:World}{base:Nat}{v:Value}{l:List Int}(h:za8 w base v l):∃ a c,v= .slice a l.length c:=by
 rcases h.2 with ⟨h1,h2⟩|⟨g,cap,cur,hv,-⟩
 ·
  exact⟨none,0,by rw[h1,h2]⟩
 ·
  exact⟨_,_,hv⟩
theorem zf7 {w:World}{base:Nat}{v x:Value}{l m:List Int}(h:za8 w base v l)(hx:za1 w x m)(hlen:l.length+m.length≤17592186044416)(hbase:base≤w.heap.size) :
  ∃ v' w',(Builtin.append_ #[50,50] 50 #[v,x]).run Tryz.prog w= .ok v' w'∧za8 w' base v' (l++m)∧w.grownBy w' v.ownBlock∧(v'.ownBlock=v.ownBlock∨v'.ownBlock=some w.heap.size):=by
 obtain⟨v',w',hr,hO,hg,hat⟩:=zba (P:=Tryz.prog) w base 50 50 3 (.int .i64 0) 1 8 zfu zst rfl (by decide) v x l.length m.length _ _ h hx.1
  (by intro u hu;obtain⟨c,-,rfl⟩:=List.mem_map.1 hu;rfl) (by omega) (by omega) hbase
 refine⟨v',w',hr,?_,hg,hat⟩
 unfold za8
 rw[List.length_append,List.map_append]
 exact hO
theorem zj6 {w:World}{v:Value}{l:List Int}(h:za1 w v l)(hl:l.length≤17592186044416) :
  Calls Tryz.prog 63 #[v] w fun e w'=>∃ v',e= .returned v'∧za8 w' w.heap.size v' l∧Below w.heap.size w w':=by
 have H:=hid h
 obtain⟨hlen,a,cap,rfl,hnil,-⟩:=h.open
 obtain⟨n,HN⟩:∃ n,Hid (n=l.length):=⟨_,rfl⟩
 rw[←HN.out] at hlen H hl ⊢
 clear h
 cases a with
 | none =>
  have:=hnil rfl
  have HE:Hid (l=[]):=List.eq_nil_of_length_eq_zero (by have:=HN.out;obtain⟨-,-,a',c',e,h1,-⟩:=H.out.1;cases e;omega)
  clear hlen hl
  go_enter Tryz.func63,Tryz.ntmps63
  have eqn:=fun W a n c n' c'=>Lib.run_eql_slice_nil (P:=Tryz.prog) W 50 _ a n c n' c' zfu
  go_wp2
  go_ret
  refine⟨_,rfl,?_,Below.refl _ _⟩
  rw[HE.out]
  exact World.ownsRow_nil _ _ _ _
 | some ad =>
  have hO:za8 (w.alloc (.cells #[] 3)) w.heap.size (.slice (some ⟨w.heap.size,0,none⟩) 0 0) []:=by
   exact World.ownsRow_made (base:=w.heap.size) (e:=3) (size:=1) w #[] 0 (Nat.le_refl _) (by unfold maxLen;omega) rfl
  obtain⟨v',w',hr,hO',hg,-⟩:=zf7 hO (H.out.below ((Below.refl _ _).alloc (Nat.le_refl _) _)) (by rw[←HN.out];simp;omega) (by simp)
  have hg':Below w.heap.size w w':=((Below.refl w.heap.size w).alloc (Nat.le_refl _) (.cells #[] 3)).grown hg (by simp) (by intro q e;simp[Value.ownBlock] at e;omega)
  have HO:=hid hO'
  have HG:=hid hg'
  clear hO' hg' hg hO
  go_enter Tryz.func63,Tryz.ntmps63
  have eqn:=fun W a n c n' c'=>Lib.run_eql_slice_nil (P:=Tryz.prog) W 50 _ a n c n' c' zfu
  go_wp2_with (at_builtin;refine zad rfl _ _ _ rfl _ _ rfl rfl hr ?_)
  go_ret
  exact⟨_,rfl,HO.out,HG.out⟩
/-! Two lists,from a place on -/
theorem zdC {α:Type}{l:List α}{i:Nat}{x:α}(h:l[i]?=some x):l.drop i=x::l.drop (i+1):=by
 obtain⟨hl,e⟩:=List.getElem?_eq_some_iff.1 h
 rw[List.drop_eq_getElem_cons hl,e]
theorem zf8 {l:List Int}{n i:Nat}(hn:n=l.length)(h:i<n):∃ x,l[i]?=some x:=⟨_,List.getElem?_eq_getElem (by omega)⟩
theorem zq8 {l m:List Int}{i:Nat}{x y:Int}(hx:l[i]?=some x)(hy:m[i]?=some y):(l.drop i=m.drop i)↔x=y∧l.drop (i+1)=m.drop (i+1):=by
 rw[zdC hx,zdC hy,List.cons.injEq]
theorem zjx {w:World}{v u:Value}{l m:List Int}(h:za1 w v l)(hu:za1 w u m) :
  Calls Tryz.prog 36 #[v,u] w fun e w'=>e= .returned (.bool (decide (l=m)))∧zfC w w':=by
 obtain⟨hl,a,c,rfl,-,hat⟩:=h.open
 obtain⟨hm,a2,c2,rfl,-,hbt⟩:=hu.open
 obtain⟨n,HN⟩:∃ n,Hid (n=l.length):=⟨_,rfl⟩
 obtain⟨n2,HN2⟩:∃ n,Hid (n=m.length):=⟨_,rfl⟩
 rw[←HN.out] at hl ⊢
 rw[←HN2.out] at hm ⊢
 obtain⟨z,HZ⟩:∃ z,Hid (z=decide (l=m)):=⟨_,rfl⟩
 rw[←HZ.out]
 have HAT:=hid hat
 have HBT:=hid hbt
 clear hat hbt h hu
 by_cases hnn:n=n2
 ·
  subst hnn
  go_enter Tryz.func36,Tryz.ntmps36
  go_wp2_with fail
  go_loopw [5] (fun v5 wr=>∃ i:Nat,v5= .int .i64 i∧i≤n∧Hid (z=decide (l.drop i=m.drop i))∧(∃ k,wr=w.drewN k)) (fun v5 _=>n - (intOf v5).toNat)
  case atStart=>exact⟨0,rfl,by omega,by rw[Hid,HZ.out];simp,0,rfl⟩
  case round =>
   obtain⟨i,rfl,hi,HI,kw,rfl⟩:=hrel
   by_cases h1:i<n
   ·
    obtain⟨x,hxi⟩:=zf8 HN.out h1
    obtain⟨y,hyi⟩:=zf8 HN2.out h1
    obtain⟨hx64,b,o,ha,g0⟩:=HAT.out i x hxi
    obtain⟨hy64,b2,o2,ha2,g2⟩:=HBT.out i y hyi
    have HC:=hid (zq8 hxi hyi)
    have hix:=zaj Tryz.underlying50 zcZ ha i h1 (cap:=c)
    have hix2:=zaj Tryz.underlying50 zcZ ha2 i h1 (cap:=c2)
    clear hxi hyi ha ha2
    by_cases hxy:x=y
    ·
     have HC1:Hid (z=decide (l.drop (i+1)=m.drop (i+1))):=by
      rw[Hid,HI.out,decide_eq_decide,HC.out];simp[hxy]
     have hb1:(x != y)=false:=by simpa using hxy
     have hb2:(x == y)=true:=by simpa using hxy
     have HXY:=hid hxy
     clear hxy
     go_wp2_with fail
     go_quiet (fail)
     go_wp2_with fail
     go_roundw
     case rel=>exact⟨i+1,by go_num,h1,HC1.out,_,rfl⟩
     case measure=>simp[intOf];omega
    ·
     have HC1:Hid (z=false):=by
      rw[Hid,HI.out,decide_eq_false_iff_not,HC.out];simp[hxy]
     have hb1:(x != y)=true:=by simpa using hxy
     have hb2:(x == y)=false:=by simpa using hxy
     have HXY:=hid hxy
     clear hxy
     go_wp2_with fail
     go_quiet (fail)
     go_wp2_with fail
     go_ret
     exact⟨by rw[HC1.out];first|done|rfl,_,World.drewN_drewN _ _ _⟩
   ·
    obtain rfl:i=n:=by omega
    have HC1:Hid (z=true):=by
     rw[Hid,HI.out,List.drop_eq_nil_of_le (by rw[←HN.out];omega),List.drop_eq_nil_of_le (by rw[←HN2.out];omega)];simp
    go_wp2_with fail
    go_ret
    exact⟨by rw[HC1.out];first|done|rfl,_,rfl⟩
 ·
  have HC1:Hid (z=false):=by
   rw[Hid,HZ.out,decide_eq_false_iff_not];rintro rfl;exact hnn (by rw[HN.out,HN2.out])
  have e1:decide ((n:Int)=n2)=false:=decide_eq_false (by omega)
  have e2:((n:Int) == n2)=false:=by simp;omega
  have e3:(n == n2)=false:=by simp;omega
  clear hnn
  go_enter Tryz.func36,Tryz.ntmps36
  go_wp2_with fail
  go_ret
  exact⟨by rw[HC1.out];first|done|rfl,0,rfl⟩
theorem zj7 {w:World}{v u:Value}{l m:List Int}(h:za1 w v l)(hu:za1 w u m) :
  Calls Tryz.prog 100 #[v,u] w fun e w'=>e= .returned (.bool (decide (l=m)))∧zfC w w':=by
 obtain⟨hl,a,c,rfl,-,hat⟩:=h.open
 obtain⟨hm,a2,c2,rfl,-,hbt⟩:=hu.open
 obtain⟨n,HN⟩:∃ n,Hid (n=l.length):=⟨_,rfl⟩
 obtain⟨n2,HN2⟩:∃ n,Hid (n=m.length):=⟨_,rfl⟩
 rw[←HN.out] at hl ⊢
 rw[←HN2.out] at hm ⊢
 obtain⟨z,HZ⟩:∃ z,Hid (z=decide (l=m)):=⟨_,rfl⟩
 rw[←HZ.out]
 have HAT:=hid hat
 have HBT:=hid hbt
 clear hat hbt h hu
 by_cases hnn:n=n2
 ·
  subst hnn
  go_enter Tryz.func100,Tryz.ntmps100
  go_wp2_with fail
  go_loopw [13] (fun v5 wr=>∃ i:Nat,v5= .int .i64 i∧i≤n∧Hid (z=decide (l.drop i=m.drop i))∧(∃ k,wr=w.drewN k)) (fun v5 _=>n - (intOf v5).toNat)
  case atStart=>exact⟨0,rfl,by omega,by rw[Hid,HZ.out];simp,0,rfl⟩
  case round =>
   obtain⟨i,rfl,hi,HI,kw,rfl⟩:=hrel
   by_cases h1:i<n
   ·
    obtain⟨x,hxi⟩:=zf8 HN.out h1
    obtain⟨y,hyi⟩:=zf8 HN2.out h1
    obtain⟨hx64,b,o,ha,g0⟩:=HAT.out i x hxi
    obtain⟨hy64,b2,o2,ha2,g2⟩:=HBT.out i y hyi
    have HC:=hid (zq8 hxi hyi)
    have hix:=zaj Tryz.underlying50 zcZ ha i h1 (cap:=c)
    have hix2:=zaj Tryz.underlying50 zcZ ha2 i h1 (cap:=c2)
    clear hxi hyi ha ha2
    by_cases hxy:x=y
    ·
     have HC1:Hid (z=decide (l.drop (i+1)=m.drop (i+1))):=by
      rw[Hid,HI.out,decide_eq_decide,HC.out];simp[hxy]
     have hb1:(x != y)=false:=by simpa using hxy
     have hb2:(x == y)=true:=by simpa using hxy
     have HXY:=hid hxy
     clear hxy
     go_wp2_with fail
     go_quiet (fail)
     go_wp2_with fail
     go_roundw
     case rel=>exact⟨i+1,by go_num,h1,HC1.out,_,rfl⟩
     case measure=>simp[intOf];omega
    ·
     have HC1:Hid (z=false):=by
      rw[Hid,HI.out,decide_eq_false_iff_not,HC.out];simp[hxy]
     have hb1:(x != y)=true:=by simpa using hxy
     have hb2:(x == y)=false:=by simpa using hxy
     have HXY:=hid hxy
     clear hxy
     go_wp2_with fail
     go_quiet (fail)
     go_wp2_with fail
     go_ret
     exact⟨by rw[HC1.out];first|done|rfl,_,World.drewN_drewN _ _ _⟩
   ·
    obtain rfl:i=n:=by omega
    have HC1:Hid (z=true):=by
     rw[Hid,HI.out,List.drop_eq_nil_of_le (by rw[←HN.out];omega),List.drop_eq_nil_of_le (by rw[←HN2.out];omega)];simp
    go_wp2_with fail
    go_ret
    exact⟨by rw[HC1.out];first|done|rfl,_,rfl⟩
 ·
  have HC1:Hid (z=false):=by
   rw[Hid,HZ.out,decide_eq_false_iff_not];rintro rfl;exact hnn (by rw[HN.out,HN2.out])
  have e1:decide ((n:Int)=n2)=false:=decide_eq_false (by omega)
  have e2:((n:Int) == n2)=false:=by simp;omega
  have e3:(n == n2)=false:=by simp;omega
  clear hnn
  go_enter Tryz.func100,Tryz.ntmps100
  go_wp2_with fail
  go_ret
  exact⟨by rw[HC1.out];first|done|rfl,0,rfl⟩
/-! The order of ways -/
def zmh:List Int→List Int→Int
 | [],[]=>0
 | [],_::_=> -1
 | _::_,[]=>1
 | x::a,y::b=>if x<y then -1 else if y<x then 1 else zmh a b
theorem zoE:∀ a b,zmh a b<0↔ltW a b=true
 | [],[]=>by simp[zmh,ltW]
 | [],_::_=>by simp[zmh,ltW]
 | _::_,[]=>by simp[zmh,ltW]
 | x::a,y::b=>by
  have ih:=zoE a b
  simp only[zmh,ltW]
  by_cases h1:x<y
  ·
   rw[if_pos h1,if_neg (by omega)];simp[h1]
  ·
   rw[if_neg h1]
   by_cases h2:y<x
   ·
    rw[if_pos h2,if_neg (by omega)];simp;omega
   ·
    rw[if_neg h2,if_pos (by omega)];exact ih
theorem zto (a b:List Int):decide (zmh a b<0)=ltW a b:=by
 rw[Bool.eq_iff_iff,decide_eq_true_iff];exact zoE a b
theorem ztp {l m:List Int}{i:Nat}{x y:Int}(hx:l[i]?=some x)(hy:m[i]?=some y):zmh (l.drop i) (m.drop i)=if x<y then -1 else if y<x then 1 else zmh (l.drop (i+1)) (m.drop (i+1)):=by
 rw[zdC hx,zdC hy,zmh]
theorem zmi {l m:List Int}{i:Nat}(hx:l.length≤i):zmh (l.drop i) (m.drop i)=if i<m.length then -1 else 0:=by
 rw[List.drop_eq_nil_of_le hx]
 split
 ·
  rename_i h;rw[List.drop_eq_getElem_cons h];rfl
 ·
  rw[List.drop_eq_nil_of_le (by omega)];rfl
theorem zq9 {l m:List Int}{i:Nat}(hx:i<l.length)(hy:m.length≤i):zmh (l.drop i) (m.drop i)=1:=by
 rw[List.drop_eq_nil_of_le hy,List.drop_eq_getElem_cons hx];rfl
theorem zdD (x y:Int)(w:World) :
  Calls Tryz.prog 99 #[.int .i64 x,.int .i64 y] w fun e w'=>e= .returned (.int .i64 (if x<y then -1 else if y<x then 1 else 0))∧w=w':=by
 by_cases h1:x<y
 ·
  rw[if_pos h1]
  have e2:¬ y<x:=by omega
  go_enter Tryz.func99,Tryz.ntmps99
  go_wp2
  go_ret
  exact⟨rfl,rfl⟩
 ·
  rw[if_neg h1]
  by_cases h2:y<x
  ·
   rw[if_pos h2]
   go_enter Tryz.func99,Tryz.ntmps99
   go_wp2
   go_ret
   exact⟨rfl,rfl⟩
  ·
   rw[if_neg h2]
   go_enter Tryz.func99,Tryz.ntmps99
   go_wp2
   go_ret
   exact⟨rfl,rfl⟩
theorem zmj {w:World}{v u:Value}{l m:List Int}(h:za1 w v l)(hu:za1 w u m) :
  Calls Tryz.prog 61 #[v,u] w fun e w'=>e= .returned (.int .i64 (zmh l m))∧w'=w:=by
 obtain⟨hl,a,c,rfl,-,hat⟩:=h.open
 obtain⟨hm,a2,c2,rfl,-,hbt⟩:=hu.open
 obtain⟨n,HN⟩:∃ n,Hid (n=l.length):=⟨_,rfl⟩
 obtain⟨n2,HN2⟩:∃ n,Hid (n=m.length):=⟨_,rfl⟩
 rw[←HN.out] at hl ⊢
 rw[←HN2.out] at hm ⊢
 obtain⟨z,HZ⟩:∃ z,Hid (z=zmh l m):=⟨_,rfl⟩
 rw[←HZ.out]
 have HAT:=hid hat
 have HBT:=hid hbt
 clear hat hbt h hu
 go_enter Tryz.func61,Tryz.ntmps61
 go_wp2_with fail
 go_loop [11] (fun v5=>∃ i:Nat,v5= .int .i64 i∧i≤n∧i≤n2∧Hid (z=zmh (l.drop i) (m.drop i))) (fun v5=>n - (intOf v5).toNat)
 case atStart=>exact⟨0,rfl,by omega,by omega,by rw[Hid,HZ.out];simp⟩
 case round =>
  obtain⟨i,rfl,hi,hi2,HI⟩:=hrel
  by_cases h1:i<n
  ·
   obtain⟨x,hxi⟩:=zf8 HN.out h1
   obtain⟨hx64,b,o,ha,g0⟩:=HAT.out i x hxi
   have hix:=zaj Tryz.underlying50 zcZ ha i h1 (cap:=c)
   by_cases h2:i<n2
   ·
    obtain⟨y,hyi⟩:=zf8 HN2.out h2
    obtain⟨hy64,b2,o2,ha2,g2⟩:=HBT.out i y hyi
    have HC:=hid (ztp hxi hyi)
    have hix2:=zaj Tryz.underlying50 zcZ ha2 i h2 (cap:=c2)
    have hge:¬ (n2≤i):=by omega
    clear hxi hyi ha ha2
    obtain⟨q,HQ⟩:∃ q,Hid (q=(if x<y then -1 else if y<x then 1 else 0:Int)):=⟨_,rfl⟩
    by_cases hq:q=0
    ·
     have HC1:Hid (z=zmh (l.drop (i+1)) (m.drop (i+1))):=by
      have e1:¬ x<y:=fun h=>by have:=HQ.out;rw[if_pos h] at this;omega
      have e2:¬ y<x:=fun h=>by have:=HQ.out;rw[if_neg e1,if_pos h] at this;omega
      rw[Hid,HI.out,HC.out,if_neg e1,if_neg e2]
     subst hq
     go_wp2_with (go_at_call 99;refine (zdD x y _).mono ?_;rintro e w' ⟨rfl,rfl⟩;rw[←HQ.out])
     go_round
     case rel=>exact⟨i+1,by go_num,h1,h2,HC1.out⟩
     case measure=>simp[intOf];omega
    ·
     have HC1:Hid (z=q):=by
      rw[Hid,HI.out,HC.out,HQ.out]
      by_cases e1:x<y
      ·
       rw[if_pos e1,if_pos e1]
      ·
       rw[if_neg e1,if_neg e1]
       by_cases e2:y<x
       ·
        rw[if_pos e2,if_pos e2]
       ·
        exact absurd (by rw[HQ.out,if_neg e1,if_neg e2]) hq
     have hb1:(q != 0)=true:=by simpa using hq
     have hb2:(q == 0)=false:=by simpa using hq
     clear hq
     go_wp2_with (go_at_call 99;refine (zdD x y _).mono ?_;rintro e w' ⟨rfl,rfl⟩;rw[←HQ.out])
     go_ret
     exact⟨by rw[HC1.out];first|done|rfl,rfl⟩
   ·
    have HC1:Hid (z=1):=by
     rw[Hid,HI.out,zq9 (by rw[←HN.out];exact h1) (by rw[←HN2.out];omega)]
    have hge:n2≤i:=by omega
    clear hxi ha
    go_wp2_with fail
    go_ret
    exact⟨by rw[HC1.out];first|done|rfl,rfl⟩
  ·
   obtain rfl:i=n:=by omega
   by_cases h2:i<n2
   ·
    have HC1:Hid (z= -1):=by
     rw[Hid,HI.out,zmi (by rw[←HN.out];omega),if_pos (by rw[←HN2.out];exact h2)]
    go_wp2_with fail
    go_ret
    exact⟨by rw[HC1.out];first|done|rfl,rfl⟩
   ·
    have HC1:Hid (z=0):=by
     rw[Hid,HI.out,zmi (by rw[←HN.out];omega),if_neg (by rw[←HN2.out];exact h2)]
    go_wp2_with fail
    go_ret
    exact⟨by rw[HC1.out];first|done|rfl,rfl⟩
theorem za1.h {w:World}{a:Option Addr}{n cap:Nat}{l:List Int}(h:za1 w (.slice a n cap) l)(hn:n=l.length)(j:Nat)(hj:j≤n) :
  ∃ a' cap',(∀ W,(Instr.slice 50 (.slice a n cap) none (some (.int .i64 (j:Int))) none).run Tryz.prog W= .ok (.slice a' j cap') W)∧za1 w (.slice a' j cap') (l.take j):=by
 subst hn
 have hcap:l.length≤cap:=by obtain⟨⟨_,_,a',cap',hv,h3,_⟩,-⟩:=h;cases hv;exact h3
 have hr:=fun W=>zek (P:=Tryz.prog) zfu zcZ a l.length cap j (by omega) W
 have hs:=Seg.sub h.1 0 j (by omega) hj
 unfold sliced at hr hs
 refine⟨_,_,hr,⟨?_,fun x hx=>h.2 x (List.mem_of_mem_take hx)⟩⟩
 rw[List.length_take,Nat.min_eq_left (by omega),List.map_take]
 simpa using hs
theorem zny {w:World}{v u:Value}{l m:List Int}(h:za1 w v l)(hu:za1 w u m) :
  Calls Tryz.prog 62 #[v,u] w fun e w'=>e= .returned (.bool (zey l m))∧zfC w w':=by
 have H:=hid h
 have HU:=hid hu
 obtain⟨hl,a,c,rfl,-,-⟩:=h.open
 obtain⟨hm,a2,c2,rfl,-,-⟩:=hu.open
 obtain⟨n,HN⟩:∃ n,Hid (n=l.length):=⟨_,rfl⟩
 obtain⟨n2,HN2⟩:∃ n,Hid (n=m.length):=⟨_,rfl⟩
 rw[←HN.out] at hl H ⊢
 rw[←HN2.out] at hm HU ⊢
 obtain⟨z,HZ⟩:∃ z,Hid (z=zey l m):=⟨_,rfl⟩
 rw[←HZ.out]
 clear h hu
 by_cases hn:n2≤n
 ·
  obtain⟨a',c',hsl,hI⟩:=H.out.h HN.out n2 hn
  have HI:=hid hI
  have HZ2:Hid (decide (l.take n2=m)=z):=by
   rw[Hid,HZ.out,zey,←HN2.out,←HN.out,decide_eq_true hn,Bool.true_and]
  clear hI
  go_enter Tryz.func62,Tryz.ntmps62
  go_wp2_with (go_at_call 100;refine (zj7 HI.out HU.out).mono ?_;rintro e w' ⟨rfl,kw,rfl⟩;rw[HZ2.out])
  go_ret
  exact⟨rfl,_,rfl⟩
 ·
  have HZ2:Hid (z=false):=by
   rw[Hid,HZ.out,zey,←HN2.out,←HN.out,decide_eq_false hn,Bool.false_and]
  have hn2:¬ ((n2:Int)≤n):=by omega
  go_enter Tryz.func62,Tryz.ntmps62
  go_wp2_with fail
  go_ret
  exact⟨by rw[HZ2.out];first|done|rfl,0,rfl⟩
theorem zg9 {w W:World}{ops:Array Oper}{rest:List Oper}{o:Oper}{a:Act}{Q:Exit→Act→World→Prop}(hgd:o.guard=none)(s x:Operand)
  (ho:o.op= .call { callee:=.builtin .append,args:=#[s,x],argTypes:=#[50,50] }) (hty:o.type=50) (v:Value) (y:Int) (q:Nat) (hs:a.eval s=v) (hx:a.eval x= .slice (some ⟨q,0,none⟩) 1 1) (hw:w=W.alloc (.cells #[.int .i64 y] 3)) (hq:q=W.heap.size)
  (base:Nat) (l:List Int) (hown:za8 W base v l) (hy:zcS y) (hl:l.length≤1099511627776) (hb:base≤W.heap.size)
  (h:∀ a' c' w',za8 w' base (.slice a' (l.length+1) c') (l++[y])→(∀ w0:World,Below base w0 W→Below base w0 w')→(∀ b,b<W.heap.size→v.ownBlock≠some b→w'.heap[b]?=W.heap[b]?)→wpList Tryz.prog ops Q rest (a.put o.dst (.slice a' (l.length+1) c')) w'):wpList Tryz.prog ops Q (o::rest) a w:=by
 subst hw
 subst hq
 have hA:Below W.heap.size W (W.alloc (.cells #[.int .i64 y] 3)):=(Below.refl _ _).alloc (Nat.le_refl _) _
 have hI:za1 (W.alloc (.cells #[.int .i64 y] 3)) (.slice (some ⟨W.heap.size,0,none⟩) 1 1) [y]:=by
  refine⟨⟨rfl,by simp,_,_,rfl,Nat.le_refl _,by simp,by simp,fun j u hu=>⟨_,_,rfl,?_⟩⟩,by simpa using hy⟩
  rw[Nat.zero_add,cell_of_row _ _ _ #[.int .i64 y] _ (0,0) (heap_alloc_new W _)]
  simpa [intV] using hu
 obtain⟨v',w',hr,hO,hg,-⟩:=zf7 (hown.later hA) hI (by simp;omega) (by simp;omega)
 obtain⟨a',c',e⟩:=hO.form
 rw[List.length_append] at e
 have e':v'= .slice a' (l.length+1) c':=e
 subst e'
 refine zad hgd s x 50 ho v _ hs hx (by rw[hty];exact hr) (h a' c' w' hO (fun w0 hb0=>?_) fun b hb2 hne=>(hg.block b (by simp;omega) (fun e=>hne e.symm)).trans (Below.heap_alloc W _ b hb2))
 exact (hb0.alloc hb _).grown hg (by have:=hb0.size;simp;omega) (fun q e=>(World.ownsRow.lt hown q e).1)
end
section
open Go.RowKit
end
end Go.Proofs.YtpckoeicbjfnhaaGreatDoor
