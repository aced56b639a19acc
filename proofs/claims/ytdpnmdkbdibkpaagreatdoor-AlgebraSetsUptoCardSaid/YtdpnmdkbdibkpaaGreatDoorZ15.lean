/- Parts of a proof: texts of the author, merged. No condition of their own. -/
import Derived.Test.YtdpnmdkbdibkpaaGreatDoorZ03
import Derived.Test.YtdpnmdkbdibkpaaGreatDoorZ08
import Derived.Test.YtdpnmdkbdibkpaaGreatDoorZ09
import Derived.Test.YtdpnmdkbdibkpaaGreatDoorZ11
import Derived.Test.YtdpnmdkbdibkpaaGreatDoorZ14
import Derived.RangeFuncNested
import Derived.RangeFuncCalls
import Derived.Lib.AppendZerosOnto
import Derived.OrdersHeld
namespace Go.Proofs.YtdpnmdkbdibkpaaGreatDoor
set_option maxRecDepth 100000
set_option maxHeartbeats 16000000
section
open Go.RowKit Go.Shelf
attribute [local go_sem] Oper.semAt_some
def zcq (w:World)(base:Nat)(v:Value)(l:List Nat):Prop:=w.ownsRow base 65 1 v l.length (l.map zgK)
theorem zgr:(Tryz.prog.info? 65).map (fun i=>(i.zero,i.size,i.bytes))=some (some (.int .u64 0),1,8):=by kernel_rfl
theorem zcX:Tryz.prog.underlying 29=some (.slice 65):=Tryz.underlying29
end
section
open Go.RowKit
theorem zcq.formC {w:World}{base:Nat}{v:Value}{l:List Nat}(h:zcq w base v l):∃ a c,v= .slice a l.length c:=by
 rcases h.2 with ⟨h1,h2⟩|⟨g,cap,cur,hv,-⟩
 ·
  exact⟨none,0,by rw[h1,h2]⟩
 ·
  exact⟨_,_,hv⟩
theorem zg6 {w:World}{ad:Addr}{n c:Nat}{l:List Nat}(h:zbn w (.slice (some ad) n c) l)(hn:n=l.length)(hl:n≤1099511627776) :
  ∃ a' c' w',(Builtin.append_ #[29,29] 29 #[.slice (some ⟨w.heap.size,0,none⟩) 0 0,.slice (some ad) n c]).run Tryz.prog (w.alloc (.cells #[] 65))= .ok (.slice a' n c') w'∧zcq w' w.heap.size (.slice a' n c') l∧Below w.heap.size w w':=by
 have hb0:Below w.heap.size w (w.alloc (.cells #[] 65)):=(Below.refl _ _).alloc (Nat.le_refl _) _
 have h0:(w.alloc (.cells #[] 65)).ownsRow w.heap.size 65 1 (.slice (some ⟨w.heap.size,0,none⟩) 0 0) 0 []:=World.ownsRow_made (base:=w.heap.size) (e:=65) (size:=1) w #[] 0 (Nat.le_refl _) (by unfold maxLen;omega) rfl
 have hs:Seg (w.alloc (.cells #[] 65)) (.slice (some ad) n c) 1 n (l.map zgK):=by have:=h.1.keep (zaa hb0);rw[←hn] at this;exact this
 obtain⟨v',w',hr,hO,hg,-⟩:=zbb (P:=Tryz.prog) _ w.heap.size 29 29 65 (.int .u64 0) 1 8 zcX zgr rfl (by decide) _ _ 0 n [] _ h0 hs
  (by intro u hu;obtain⟨c,-,rfl⟩:=List.mem_map.1 hu;rfl) (by omega) (by omega) hb0.size
 rw[Nat.zero_add,List.nil_append] at hO
 have hO':zcq w' w.heap.size v' l:=by unfold zcq;rw[←hn];exact hO
 obtain⟨a',c',rfl⟩:=hO'.formC
 rw[←hn] at hO' hr
 exact⟨a',c',w',hr,hO',hb0.grown hg hb0.size (by intro q e;simp[Value.ownBlock] at e;omega)⟩
theorem zkJ {w:World}{a:Option Addr}{n c:Nat}{l:List Nat}(h:zbn w (.slice a n c) l)(hn:n=l.length)(hl:n≤1099511627776) :
  Calls Tryz.prog 63 #[.slice a n c] w fun e w'=>∃ a' c',e= .returned (.slice a' n c')∧zcq w' w.heap.size (.slice a' n c') l∧Below w.heap.size w w':=by
 cases a with
 | none =>
  have h0:n=0:=by
   rcases Nat.eq_zero_or_pos n with h0|h0
   ·
    exact h0
   ·
    obtain⟨-,a',c',he,-,hat⟩:=h.open
    obtain⟨x,hx⟩:∃ x,l[0]?=some x:=⟨_,List.getElem?_eq_getElem (by omega)⟩
    obtain⟨-,b,o,ha,-⟩:=hat 0 x hx
    cases he
    cases ha
  obtain⟨Q,HQ⟩:∃ Q:Ending→World→Prop,Hid (Q=fun e w'=>∃ a' c',e= .returned (.slice a' n c')∧zcq w' w.heap.size (.slice a' n c') l∧Below w.heap.size w w'):=⟨_,rfl⟩
  rw[←HQ.out]
  have HE:Hid (Q (.returned (.slice none 0 0)) w):=by
   rw[HQ.out]
   subst h0
   refine⟨none,0,rfl,?_,Below.refl _ _⟩
   rw[List.length_eq_zero_iff.1 hn.symm]
   exact World.ownsRow_nil _ _ _ _
  have heq:∀ w,(binOp .eql 29 (.slice none n c) (.slice none 0 0)).run Tryz.prog w= .ok (.bool true) w:=fun w=>rfl
  clear h hn hl h0
  go_enter Tryz.func63,Tryz.ntmps63
  go_wp2_with fail
  exact HE.out
 | some ad =>
  obtain⟨a',c',w',hr,hO,hb⟩:=zg6 h hn hl
  obtain⟨Q,HQ⟩:∃ Q:Ending→World→Prop,Hid (Q=fun e w'=>∃ a' c',e= .returned (.slice a' n c')∧zcq w' w.heap.size (.slice a' n c') l∧Below w.heap.size w w'):=⟨_,rfl⟩
  rw[←HQ.out]
  have HE:Hid (Q (.returned (.slice a' n c')) w'):=by rw[HQ.out];exact⟨a',c',rfl,hO,hb⟩
  have heq:∀ w,(binOp .eql 29 (.slice (some ad) n c) (.slice none 0 0)).run Tryz.prog w= .ok (.bool false) w:=fun w=>rfl
  clear h hn hl hO hb
  go_enter Tryz.func63,Tryz.ntmps63
  go_wp2_with (at_builtin;refine zaf rfl _ _ _ rfl _ _ rfl rfl hr ?_)
  exact HE.out
theorem zaq.formC {w:World}{base:Nat}{v:Value}{l:List (List UInt8)}(h:zaq w base v l):∃ a c,v= .slice a l.length c:=by
 rcases h.2 with ⟨h1,h2⟩|⟨g,cap,cur,hv,-⟩
 ·
  exact⟨none,0,by rw[h1,h2]⟩
 ·
  exact⟨_,_,hv⟩
theorem zhH {w:World}{ad:Addr}{n c:Nat}{l:List (List UInt8)}(h:zaV w (.slice (some ad) n c) l)(hn:n=l.length)(hl:n≤1099511627776) :
  ∃ a' c' w',(Builtin.append_ #[25,25] 25 #[.slice (some ⟨w.heap.size,0,none⟩) 0 0,.slice (some ad) n c]).run Tryz.prog (w.alloc (.cells #[] 9))= .ok (.slice a' n c') w'∧zaq w' w.heap.size (.slice a' n c') l∧Below w.heap.size w w':=by
 have hb0:Below w.heap.size w (w.alloc (.cells #[] 9)):=(Below.refl _ _).alloc (Nat.le_refl _) _
 have h0:(w.alloc (.cells #[] 9)).ownsRow w.heap.size 9 1 (.slice (some ⟨w.heap.size,0,none⟩) 0 0) 0 []:=World.ownsRow_made (base:=w.heap.size) (e:=9) (size:=1) w #[] 0 (Nat.le_refl _) (by unfold maxLen;omega) rfl
 have hs:Seg (w.alloc (.cells #[] 9)) (.slice (some ad) n c) 1 n (l.map zbA):=by have:=h.1.keep (zaa hb0);rw[←hn] at this;exact this
 obtain⟨v',w',hr,hO,hg,-⟩:=zbb (P:=Tryz.prog) _ w.heap.size 25 25 9 (.string ⟨#[]⟩) 1 16 zcI zcW rfl (by decide) _ _ 0 n [] _ h0 hs
  (by intro u hu;obtain⟨c,-,rfl⟩:=List.mem_map.1 hu;rfl) (by omega) (by omega) hb0.size
 rw[Nat.zero_add,List.nil_append] at hO
 have hO':zaq w' w.heap.size v' l:=by unfold zaq;rw[←hn];exact hO
 obtain⟨a',c',rfl⟩:=hO'.formC
 rw[←hn] at hO' hr
 exact⟨a',c',w',hr,hO',hb0.grown hg hb0.size (by intro q e;simp[Value.ownBlock] at e;omega)⟩
theorem zid {w:World}{a:Option Addr}{n c:Nat}{l:List (List UInt8)}(h:zaV w (.slice a n c) l)(hn:n=l.length)(hl:n≤1099511627776) :
  Calls Tryz.prog 62 #[.slice a n c] w fun e w'=>∃ a' c',e= .returned (.slice a' n c')∧zaq w' w.heap.size (.slice a' n c') l∧Below w.heap.size w w':=by
 cases a with
 | none =>
  have h0:n=0:=by
   rcases Nat.eq_zero_or_pos n with h0|h0
   ·
    exact h0
   ·
    obtain⟨-,a',c',he,-,hat⟩:=h.open
    obtain⟨x,hx⟩:∃ x,l[0]?=some x:=⟨_,List.getElem?_eq_getElem (by omega)⟩
    obtain⟨-,b,o,ha,-⟩:=hat 0 x hx
    cases he
    cases ha
  obtain⟨Q,HQ⟩:∃ Q:Ending→World→Prop,Hid (Q=fun e w'=>∃ a' c',e= .returned (.slice a' n c')∧zaq w' w.heap.size (.slice a' n c') l∧Below w.heap.size w w'):=⟨_,rfl⟩
  rw[←HQ.out]
  have HE:Hid (Q (.returned (.slice none 0 0)) w):=by
   rw[HQ.out]
   subst h0
   refine⟨none,0,rfl,?_,Below.refl _ _⟩
   rw[List.length_eq_zero_iff.1 hn.symm]
   exact World.ownsRow_nil _ _ _ _
  have heq:∀ w,(binOp .eql 25 (.slice none n c) (.slice none 0 0)).run Tryz.prog w= .ok (.bool true) w:=fun w=>rfl
  clear h hn hl h0
  go_enter Tryz.func62,Tryz.ntmps62
  go_wp2_with fail
  exact HE.out
 | some ad =>
  obtain⟨a',c',w',hr,hO,hb⟩:=zhH h hn hl
  obtain⟨Q,HQ⟩:∃ Q:Ending→World→Prop,Hid (Q=fun e w'=>∃ a' c',e= .returned (.slice a' n c')∧zaq w' w.heap.size (.slice a' n c') l∧Below w.heap.size w w'):=⟨_,rfl⟩
  rw[←HQ.out]
  have HE:Hid (Q (.returned (.slice a' n c')) w'):=by rw[HQ.out];exact⟨a',c',rfl,hO,hb⟩
  have heq:∀ w,(binOp .eql 25 (.slice (some ad) n c) (.slice none 0 0)).run Tryz.prog w= .ok (.bool false) w:=fun w=>rfl
  clear h hn hl hO hb
  go_enter Tryz.func62,Tryz.ntmps62
  go_wp2_with (at_builtin;refine zaf rfl _ _ _ rfl _ _ rfl rfl hr ?_)
  exact HE.out
end
section
open Go.RowKit
theorem zf5 (w:World)(n:Nat)(h0:0<n)(hn:n≤2199023255552)(ty:TypeId) :
  ∃ G,n≤G∧G≤9223372036854775807∧(Builtin.append_ #[29,3] ty #[.slice none 0 0,.int .i64 (n:Int)]).run Tryz.prog w= .ok (.slice (some ⟨w.heap.size,0,none⟩) n G) (w.drew.alloc (.cells (Builtin.zeroCells #[.int .u64 0] n++Builtin.zeroCells #[.int .u64 0] (G - n)) 65))∧G≤maxLen:=by
 obtain⟨i,hi,hz,hsize,hby⟩:=info_parts zgr
 have h:=Lib.run_append_grow_zeros w 29 3 ty 65 i (.int .u64 0) .i64 .i64 zcX Tryz.underlying3 hi hz none 0 0 [] (run_firstCells_none w.drew i.size 0 0 0) n h0 (by omega) (by omega) (by omega) (by rw[hby];omega)
  (by rw[Nat.zero_add];exact growslice_fits (by omega) (by rw[hby];omega))
 rw[Nat.zero_add] at h
 have hm:=grownCap_le_maxLen w n 0 65 (by unfold maxLen;omega)
 refine⟨_,grownCap_ge w n 0 _,by have:=hm;unfold maxLen at this;omega,?_,hm⟩
 simp at h
 exact h
theorem zmj (w:World)(n:Nat)(hn:n≤2199023255552) :
  Calls Tryz.prog 145 #[.slice none 0 0,.int .i64 (n:Int)] w fun e w'=>∃ v',e= .returned v'∧w'.ownsRow w.heap.size 65 1 v' 0 []∧Below w.heap.size w w':=by
 by_cases h0:0<n
 ·
  obtain⟨G,h1,h2,h3,h4⟩:=zf5 w n h0 hn 29
  have hcut:∀ W,(Instr.slice 29 (.slice (some ⟨w.heap.size,0,none⟩) n G) none (some (.int .i64 0)) none).run Tryz.prog W= .ok (.slice (some ⟨w.heap.size,0,none⟩) 0 G) W:=by
   intro W
   have:=zdz (P:=Tryz.prog) zcX ze8 (some ⟨w.heap.size,0,none⟩) n G 0 (by omega) W
   rw[show ((0:Nat):Int)=0 from rfl] at this
   rw[this]
   unfold sliced
   by_cases hG:G=0
   ·
    omega
   ·
    rw[if_neg hG];rfl
  have HOWN:Hid (World.ownsRow (w.drew.alloc (.cells (Builtin.zeroCells #[.int .u64 0] n++Builtin.zeroCells #[.int .u64 0] (G - n)) 65)) w.heap.size 65 1 (.slice (some ⟨w.heap.size,0,none⟩) 0 G) 0 []):=by
   refine⟨rfl,.inr ⟨w.heap.size,G,_,rfl,Nat.le_refl _,heap_alloc_new w.drew _,Nat.zero_le _,h4,?_,by simp⟩⟩
   have e1:=size_zeroCells #[.int .u64 0] n
   have e2:=size_zeroCells #[.int .u64 0] (G - n)
   rw[Array.size_append,e1,e2]
   simp
   omega
  clear h4
  go_enter Tryz.func145,Tryz.ntmps145
  go_wp2_with (at_builtin;refine zcm rfl _ _ _ _ rfl _ _ rfl rfl h3 ?_)
  go_ret
  exact⟨_,rfl,HOWN.out,((Below.refl _ _).drew).alloc (Nat.le_refl _) _⟩
 ·
  obtain rfl:n=0:=by omega
  go_enter Tryz.func145,Tryz.ntmps145
  go_wp2_with fail
  go_ret
  exact⟨_,rfl,World.ownsRow_nil _ _ _ _,Below.refl _ _⟩
theorem zjU {w:World}{b:Nat}{a1 a2:Option Addr}{n1 n2 k1 k2:Nat}{xs1 xs2:List Value}(h1:Seg w (.slice a1 n1 k1) 1 n1 xs1)(h2:Seg w (.slice a2 n2 k2) 1 n2 xs2)(o1:∀ u∈xs1,u.oneCell'=true)(o2:∀ u∈xs2,u.oneCell'=true)
  (c1:w.cell? ⟨b,0,none⟩=some (.slice a1 n1 k1)) (c2:w.cell? ⟨b,1,none⟩=some (.slice a2 n2 k2)) (hl1:n1≤1099511627776) (hl2:n2≤1099511627776) :
  Calls Tryz.prog 118 #[.slice (some ⟨b,0,none⟩) 2 2] w fun e w'=>∃ a c,e= .returned (.slice a (n1+n2) c)∧w'.ownsRow w.heap.size 65 1 (.slice a (n1+n2) c) (n1+n2) (xs1++xs2)∧Below w.heap.size w w':=by
 have HS1:=hid h1
 have HS2:=hid h2
 have HO1:=hid o1
 have HO2:=hid o2
 have C1:=hid c1
 have C2:=hid c2
 clear h1 h2 o1 o2
 have hi0:∀ W,(Instr.indexAt 214 (.slice (some ⟨b,0,none⟩) 2 2) (.int .i64 0)).run Tryz.prog W= .ok (.pointer (some ⟨b,0,none⟩)) W:=fun W=>by kernel_rfl
 have hi1:∀ W,(Instr.indexAt 214 (.slice (some ⟨b,0,none⟩) 2 2) (.int .i64 1)).run Tryz.prog W= .ok (.pointer (some ⟨b,1,none⟩)) W:=fun W=>by kernel_rfl
 have HGR:=zmj w (n1+n2) (by omega)
 rw[show ((n1+n2:Nat):Int)=(n1:Int)+(n2:Int) by omega] at HGR
 have HG:=hid HGR
 clear HGR
 go_enter Tryz.func118,Tryz.ntmps118
 go_wp2_with fail
 refine wp_loop_rounds 3 ?_
 rw[rounds_succ]
 go_wp2_with fail
 rw[rounds_succ]
 go_wp2_with fail
 rw[rounds_succ]
 go_wp2_with fail
 refine HG.out.mono ?_
 rintro e w1 ⟨v3,rfl,hO,hB⟩
 obtain⟨v4,w2,hr4,hO4,hg4,-⟩:=zbb (P:=Tryz.prog) w1 w.heap.size 29 29 65 (.int .u64 0) 1 8 zcX zgr rfl (by decide) _ _ 0 n1 _ _ hO (HS1.out.keep (zaa hB)) HO1.out (by omega) (by omega) hB.size
 have hB2:Below w.heap.size w w2:=hB.grown hg4 hB.size (fun q e=>(World.ownsRow.lt hO q e).1)
 obtain⟨v5,w3,hr5,hO5,hg5,-⟩:=zbb (P:=Tryz.prog) w2 w.heap.size 29 29 65 (.int .u64 0) 1 8 zcX zgr rfl (by decide) _ _ _ n2 _ _ hO4 (HS2.out.keep (zaa hB2)) HO2.out (by omega) (by omega) hB2.size
 have hB3:Below w.heap.size w w3:=hB2.grown hg5 hB2.size (fun q e=>(World.ownsRow.lt hO4 q e).1)
 rw[Nat.zero_add,List.nil_append] at hO5
 have k1':=zaa hB _ _ C1.out
 have k2':=zaa hB2 _ _ C2.out
 obtain⟨a3,m3,k3,rfl⟩:∃ a n c,v3= .slice a n c:=by obtain⟨-,-,a,c,e,-⟩:=zbo hO (by omega);exact⟨_,_,_,e⟩
 obtain⟨a4,m4,k4,rfl⟩:∃ a n c,v4= .slice a n c:=by obtain⟨-,-,a,c,e,-⟩:=zbo hO4 (by omega);exact⟨_,_,_,e⟩
 obtain⟨a5,k5,rfl⟩:∃ a c,v5= .slice a (n1+n2) c:=by obtain⟨-,-,a,c,e,-⟩:=zbo hO5 (by omega);exact⟨_,_,e⟩
 have HFIN:=hid hO5
 have HB3:=hid hB3
 clear hO hB hO4 hg4 hB2 hO5 hg5 hB3
 go_wp2_with fail
 refine wp_loop_rounds 3 ?_
 rw[rounds_succ]
 go_wp2_with (at_builtin;refine zaf rfl _ _ _ rfl _ _ rfl rfl hr4 ?_)
 rw[rounds_succ]
 go_wp2_with (at_builtin;refine zaf rfl _ _ _ rfl _ _ rfl rfl hr5 ?_)
 rw[rounds_succ]
 go_wp2_with fail
 go_ret
 exact⟨_,_,rfl,HFIN.out,HB3.out⟩
theorem zg7 (w:World)(n:Nat)(h0:0<n)(hn:n≤2199023255552)(ty:TypeId) :
  ∃ G,n≤G∧G≤9223372036854775807∧(Builtin.append_ #[25,3] ty #[.slice none 0 0,.int .i64 (n:Int)]).run Tryz.prog w= .ok (.slice (some ⟨w.heap.size,0,none⟩) n G) (w.drew.alloc (.cells (Builtin.zeroCells #[.string ⟨#[]⟩] n++Builtin.zeroCells #[.string ⟨#[]⟩] (G - n)) 9))∧G≤maxLen:=by
 obtain⟨i,hi,hz,hsize,hby⟩:=info_parts zcW
 have h:=Lib.run_append_grow_zeros w 25 3 ty 9 i (.string ⟨#[]⟩) .i64 .i64 zcI Tryz.underlying3 hi hz none 0 0 [] (run_firstCells_none w.drew i.size 0 0 0) n h0 (by omega) (by omega) (by omega) (by rw[hby];omega)
  (by rw[Nat.zero_add];exact growslice_fits (by omega) (by rw[hby];omega))
 rw[Nat.zero_add] at h
 have hm:=grownCap_le_maxLen w n 0 9 (by unfold maxLen;omega)
 refine⟨_,grownCap_ge w n 0 _,by have:=hm;unfold maxLen at this;omega,?_,hm⟩
 simp at h
 exact h
theorem znO (w:World)(n:Nat)(hn:n≤2199023255552) :
  Calls Tryz.prog 120 #[.slice none 0 0,.int .i64 (n:Int)] w fun e w'=>∃ v',e= .returned v'∧w'.ownsRow w.heap.size 9 1 v' 0 []∧Below w.heap.size w w':=by
 by_cases h0:0<n
 ·
  obtain⟨G,h1,h2,h3,h4⟩:=zg7 w n h0 hn 25
  have hcut:∀ W,(Instr.slice 25 (.slice (some ⟨w.heap.size,0,none⟩) n G) none (some (.int .i64 0)) none).run Tryz.prog W= .ok (.slice (some ⟨w.heap.size,0,none⟩) 0 G) W:=by
   intro W
   have:=zdz (P:=Tryz.prog) zcI zcp (some ⟨w.heap.size,0,none⟩) n G 0 (by omega) W
   rw[show ((0:Nat):Int)=0 from rfl] at this
   rw[this]
   unfold sliced
   by_cases hG:G=0
   ·
    omega
   ·
    rw[if_neg hG];rfl
  have HOWN:Hid (World.ownsRow (w.drew.alloc (.cells (Builtin.zeroCells #[.string ⟨#[]⟩] n++Builtin.zeroCells #[.string ⟨#[]⟩] (G - n)) 9)) w.heap.size 9 1 (.slice (some ⟨w.heap.size,0,none⟩) 0 G) 0 []):=by
   refine⟨rfl,.inr ⟨w.heap.size,G,_,rfl,Nat.le_refl _,heap_alloc_new w.drew _,Nat.zero_le _,h4,?_,by simp⟩⟩
   have e1:=size_zeroCells #[.string ⟨#[]⟩] n
   have e2:=size_zeroCells #[.string ⟨#[]⟩] (G - n)
   rw[Array.size_append,e1,e2]
   simp
   omega
  clear h4
  go_enter Tryz.func120,Tryz.ntmps120
  go_wp2_with (at_builtin;refine zcm rfl _ _ _ _ rfl _ _ rfl rfl h3 ?_)
  go_ret
  exact⟨_,rfl,HOWN.out,((Below.refl _ _).drew).alloc (Nat.le_refl _) _⟩
 ·
  obtain rfl:n=0:=by omega
  go_enter Tryz.func120,Tryz.ntmps120
  go_wp2_with fail
  go_ret
  exact⟨_,rfl,World.ownsRow_nil _ _ _ _,Below.refl _ _⟩
theorem zkK {w:World}{b:Nat}{a1 a2:Option Addr}{n1 n2 k1 k2:Nat}{xs1 xs2:List Value}(h1:Seg w (.slice a1 n1 k1) 1 n1 xs1)(h2:Seg w (.slice a2 n2 k2) 1 n2 xs2)(o1:∀ u∈xs1,u.oneCell'=true)(o2:∀ u∈xs2,u.oneCell'=true)
  (c1:w.cell? ⟨b,0,none⟩=some (.slice a1 n1 k1)) (c2:w.cell? ⟨b,1,none⟩=some (.slice a2 n2 k2)) (hl1:n1≤1099511627776) (hl2:n2≤1099511627776) :
  Calls Tryz.prog 80 #[.slice (some ⟨b,0,none⟩) 2 2] w fun e w'=>∃ a c,e= .returned (.slice a (n1+n2) c)∧w'.ownsRow w.heap.size 9 1 (.slice a (n1+n2) c) (n1+n2) (xs1++xs2)∧Below w.heap.size w w':=by
 have HS1:=hid h1
 have HS2:=hid h2
 have HO1:=hid o1
 have HO2:=hid o2
 have C1:=hid c1
 have C2:=hid c2
 clear h1 h2 o1 o2
 have hi0:∀ W,(Instr.indexAt 187 (.slice (some ⟨b,0,none⟩) 2 2) (.int .i64 0)).run Tryz.prog W= .ok (.pointer (some ⟨b,0,none⟩)) W:=fun W=>by kernel_rfl
 have hi1:∀ W,(Instr.indexAt 187 (.slice (some ⟨b,0,none⟩) 2 2) (.int .i64 1)).run Tryz.prog W= .ok (.pointer (some ⟨b,1,none⟩)) W:=fun W=>by kernel_rfl
 have HGR:=znO w (n1+n2) (by omega)
 rw[show ((n1+n2:Nat):Int)=(n1:Int)+(n2:Int) by omega] at HGR
 have HG:=hid HGR
 clear HGR
 go_enter Tryz.func80,Tryz.ntmps80
 go_wp2_with fail
 refine wp_loop_rounds 3 ?_
 rw[rounds_succ]
 go_wp2_with fail
 rw[rounds_succ]
 go_wp2_with fail
 rw[rounds_succ]
 go_wp2_with fail
 refine HG.out.mono ?_
 rintro e w1 ⟨v3,rfl,hO,hB⟩
 obtain⟨v4,w2,hr4,hO4,hg4,-⟩:=zbb (P:=Tryz.prog) w1 w.heap.size 25 25 9 (.string ⟨#[]⟩) 1 16 zcI zcW rfl (by decide) _ _ 0 n1 _ _ hO (HS1.out.keep (zaa hB)) HO1.out (by omega) (by omega) hB.size
 have hB2:Below w.heap.size w w2:=hB.grown hg4 hB.size (fun q e=>(World.ownsRow.lt hO q e).1)
 obtain⟨v5,w3,hr5,hO5,hg5,-⟩:=zbb (P:=Tryz.prog) w2 w.heap.size 25 25 9 (.string ⟨#[]⟩) 1 16 zcI zcW rfl (by decide) _ _ _ n2 _ _ hO4 (HS2.out.keep (zaa hB2)) HO2.out (by omega) (by omega) hB2.size
 have hB3:Below w.heap.size w w3:=hB2.grown hg5 hB2.size (fun q e=>(World.ownsRow.lt hO4 q e).1)
 rw[Nat.zero_add,List.nil_append] at hO5
 have k1':=zaa hB _ _ C1.out
 have k2':=zaa hB2 _ _ C2.out
 obtain⟨a3,m3,k3,rfl⟩:∃ a n c,v3= .slice a n c:=by obtain⟨-,-,a,c,e,-⟩:=zbo hO (by omega);exact⟨_,_,_,e⟩
 obtain⟨a4,m4,k4,rfl⟩:∃ a n c,v4= .slice a n c:=by obtain⟨-,-,a,c,e,-⟩:=zbo hO4 (by omega);exact⟨_,_,_,e⟩
 obtain⟨a5,k5,rfl⟩:∃ a c,v5= .slice a (n1+n2) c:=by obtain⟨-,-,a,c,e,-⟩:=zbo hO5 (by omega);exact⟨_,_,e⟩
 have HFIN:=hid hO5
 have HB3:=hid hB3
 clear hO hB hO4 hg4 hB2 hO5 hg5 hB3
 go_wp2_with fail
 refine wp_loop_rounds 3 ?_
 rw[rounds_succ]
 go_wp2_with (at_builtin;refine zaf rfl _ _ _ rfl _ _ rfl rfl hr4 ?_)
 rw[rounds_succ]
 go_wp2_with (at_builtin;refine zaf rfl _ _ _ rfl _ _ rfl rfl hr5 ?_)
 rw[rounds_succ]
 go_wp2_with fail
 go_ret
 exact⟨_,_,rfl,HFIN.out,HB3.out⟩
theorem zg8:(Tryz.prog.info? 27).map (fun i=>(i.zero,i.size,i.bytes))=some (some (.agg #[.slice none 0 0,.slice none 0 0]),2,48):=by kernel_rfl
theorem zdN:Tryz.prog.underlying 30=some (.slice 27):=Tryz.underlying30
theorem zg9 (w:World)(n:Nat)(h0:0<n)(hn:n≤2199023255552)(ty:TypeId) :
  ∃ G,n≤G∧G≤9223372036854775807∧(Builtin.append_ #[30,3] ty #[.slice none 0 0,.int .i64 (n:Int)]).run Tryz.prog w= .ok (.slice (some ⟨w.heap.size,0,none⟩) n G) (w.drew.alloc (.cells (Builtin.zeroCells #[.slice none 0 0,.slice none 0 0] n++Builtin.zeroCells #[.slice none 0 0,.slice none 0 0] (G - n)) 27))∧G≤maxLen:=by
 obtain⟨i,hi,hz,hsize,hby⟩:=info_parts zg8
 have h:=Lib.run_append_grow_zeros w 30 3 ty 27 i (.agg #[.slice none 0 0,.slice none 0 0]) .i64 .i64 zdN Tryz.underlying3 hi hz none 0 0 [] (run_firstCells_none w.drew i.size 0 0 0) n h0 (by omega) (by omega) (by omega) (by rw[hby];omega)
  (by rw[Nat.zero_add];exact growslice_fits (by omega) (by rw[hby];omega))
 rw[Nat.zero_add] at h
 have hm:=grownCap_le_maxLen w n 0 27 (by unfold maxLen;omega)
 refine⟨_,grownCap_ge w n 0 _,by have:=hm;unfold maxLen at this;omega,?_,hm⟩
 simp at h
 exact h
theorem znP (w:World)(n:Nat)(hn:n≤2199023255552) :
  Calls Tryz.prog 146 #[.slice none 0 0,.int .i64 (n:Int)] w fun e w'=>∃ v',e= .returned v'∧w'.ownsRow w.heap.size 27 2 v' 0 []∧Below w.heap.size w w':=by
 by_cases h0:0<n
 ·
  obtain⟨G,h1,h2,h3,h4⟩:=zg9 w n h0 hn 30
  have hcut:∀ W,(Instr.slice 30 (.slice (some ⟨w.heap.size,0,none⟩) n G) none (some (.int .i64 0)) none).run Tryz.prog W= .ok (.slice (some ⟨w.heap.size,0,none⟩) 0 G) W:=by
   intro W
   have:=zdz (P:=Tryz.prog) zdN zbX (some ⟨w.heap.size,0,none⟩) n G 0 (by omega) W
   rw[show ((0:Nat):Int)=0 from rfl] at this
   rw[this]
   unfold sliced
   by_cases hG:G=0
   ·
    omega
   ·
    rw[if_neg hG];rfl
  have HOWN:Hid (World.ownsRow (w.drew.alloc (.cells (Builtin.zeroCells #[.slice none 0 0,.slice none 0 0] n++Builtin.zeroCells #[.slice none 0 0,.slice none 0 0] (G - n)) 27)) w.heap.size 27 2 (.slice (some ⟨w.heap.size,0,none⟩) 0 G) 0 []):=by
   refine⟨rfl,.inr ⟨w.heap.size,G,_,rfl,Nat.le_refl _,heap_alloc_new w.drew _,Nat.zero_le _,h4,?_,by simp⟩⟩
   have e1:=size_zeroCells #[.slice none 0 0,.slice none 0 0] n
   have e2:=size_zeroCells #[.slice none 0 0,.slice none 0 0] (G - n)
   rw[Array.size_append,e1,e2]
   simp
   omega
  clear h4
  go_enter Tryz.func146,Tryz.ntmps146
  go_wp2_with (at_builtin;refine zcm rfl _ _ _ _ rfl _ _ rfl rfl h3 ?_)
  go_ret
  exact⟨_,rfl,HOWN.out,((Below.refl _ _).drew).alloc (Nat.le_refl _) _⟩
 ·
  obtain rfl:n=0:=by omega
  go_enter Tryz.func146,Tryz.ntmps146
  go_wp2_with fail
  go_ret
  exact⟨_,rfl,World.ownsRow_nil _ _ _ _,Below.refl _ _⟩
theorem zkL {w:World}{b:Nat}{a1 a2:Option Addr}{n1 n2 k1 k2:Nat}{xs1 xs2:List Value}(h1:Seg w (.slice a1 n1 k1) 2 n1 xs1)(h2:Seg w (.slice a2 n2 k2) 2 n2 xs2)(o1:∀ u∈xs1,u.oneCell'=true)(o2:∀ u∈xs2,u.oneCell'=true)
  (c1:w.cell? ⟨b,0,none⟩=some (.slice a1 n1 k1)) (c2:w.cell? ⟨b,1,none⟩=some (.slice a2 n2 k2)) (hl1:n1≤1099511627776) (hl2:n2≤1099511627776) :
  Calls Tryz.prog 119 #[.slice (some ⟨b,0,none⟩) 2 2] w fun e w'=>∃ a c,e= .returned (.slice a (n1+n2) c)∧w'.ownsRow w.heap.size 27 2 (.slice a (n1+n2) c) (n1+n2) (xs1++xs2)∧Below w.heap.size w w':=by
 have HS1:=hid h1
 have HS2:=hid h2
 have HO1:=hid o1
 have HO2:=hid o2
 have C1:=hid c1
 have C2:=hid c2
 clear h1 h2 o1 o2
 have hi0:∀ W,(Instr.indexAt 216 (.slice (some ⟨b,0,none⟩) 2 2) (.int .i64 0)).run Tryz.prog W= .ok (.pointer (some ⟨b,0,none⟩)) W:=fun W=>by kernel_rfl
 have hi1:∀ W,(Instr.indexAt 216 (.slice (some ⟨b,0,none⟩) 2 2) (.int .i64 1)).run Tryz.prog W= .ok (.pointer (some ⟨b,1,none⟩)) W:=fun W=>by kernel_rfl
 have HGR:=znP w (n1+n2) (by omega)
 rw[show ((n1+n2:Nat):Int)=(n1:Int)+(n2:Int) by omega] at HGR
 have HG:=hid HGR
 clear HGR
 go_enter Tryz.func119,Tryz.ntmps119
 go_wp2_with fail
 refine wp_loop_rounds 3 ?_
 rw[rounds_succ]
 go_wp2_with fail
 rw[rounds_succ]
 go_wp2_with fail
 rw[rounds_succ]
 go_wp2_with fail
 refine HG.out.mono ?_
 rintro e w1 ⟨v3,rfl,hO,hB⟩
 obtain⟨v4,w2,hr4,hO4,hg4,-⟩:=zbb (P:=Tryz.prog) w1 w.heap.size 30 30 27 (.agg #[.slice none 0 0,.slice none 0 0]) 2 48 zdN zg8 rfl (by decide) _ _ 0 n1 _ _ hO (HS1.out.keep (zaa hB)) HO1.out (by omega) (by omega) hB.size
 have hB2:Below w.heap.size w w2:=hB.grown hg4 hB.size (fun q e=>(World.ownsRow.lt hO q e).1)
 obtain⟨v5,w3,hr5,hO5,hg5,-⟩:=zbb (P:=Tryz.prog) w2 w.heap.size 30 30 27 (.agg #[.slice none 0 0,.slice none 0 0]) 2 48 zdN zg8 rfl (by decide) _ _ _ n2 _ _ hO4 (HS2.out.keep (zaa hB2)) HO2.out (by omega) (by omega) hB2.size
 have hB3:Below w.heap.size w w3:=hB2.grown hg5 hB2.size (fun q e=>(World.ownsRow.lt hO4 q e).1)
 rw[Nat.zero_add,List.nil_append] at hO5
 have k1':=zaa hB _ _ C1.out
 have k2':=zaa hB2 _ _ C2.out
 obtain⟨a3,m3,k3,rfl⟩:∃ a n c,v3= .slice a n c:=by obtain⟨-,-,a,c,e,-⟩:=zbo hO (by omega);exact⟨_,_,_,e⟩
 obtain⟨a4,m4,k4,rfl⟩:∃ a n c,v4= .slice a n c:=by obtain⟨-,-,a,c,e,-⟩:=zbo hO4 (by omega);exact⟨_,_,_,e⟩
 obtain⟨a5,k5,rfl⟩:∃ a c,v5= .slice a (n1+n2) c:=by obtain⟨-,-,a,c,e,-⟩:=zbo hO5 (by omega);exact⟨_,_,e⟩
 have HFIN:=hid hO5
 have HB3:=hid hB3
 clear hO hB hO4 hg4 hB2 hO5 hg5 hB3
 go_wp2_with fail
 refine wp_loop_rounds 3 ?_
 rw[rounds_succ]
 go_wp2_with (at_builtin;refine zaf rfl _ _ _ rfl _ _ rfl rfl hr4 ?_)
 rw[rounds_succ]
 go_wp2_with (at_builtin;refine zaf rfl _ _ _ rfl _ _ rfl rfl hr5 ?_)
 rw[rounds_succ]
 go_wp2_with fail
 go_ret
 exact⟨_,_,rfl,HFIN.out,HB3.out⟩
end
section
open Go.RowKit
variable {P:Program} {ops:Array Oper} {md:Region.Mode} {w:World}
def zfT (md:Region.Mode)(ops:Array Oper):Nat→Nat→Nat→Bool
 | 0,_,_=>false
 | f+1,i,t=>match ops[t]? with
  | some o=>o.after.toList.any fun e=>Region.binds md e&&(e.on == i||zfT md ops f i e.on)
  | none=>false
def zbe (md:Region.Mode)(ops:Array Oper)(listed:Array Bool):Prop:=∀ (j:Nat) (oj:Oper),ops[j]?=some oj→listed.getD j false=true→∀ e∈oj.after,Region.binds md e=true→listed.getD e.on false=true
theorem zcJ {listed:Array Bool}(hc:zbe md ops listed):∀ (f i t:Nat),zfT md ops f i t=true→listed.getD i false=false→t ∉ Region.ready md ops listed∧listed.getD t false=false
 | 0,_,_,h,_=>by cases h
 | f+1,i,t,h,hi=>by
  rw[zfT] at h
  cases ho:ops[t]? with
  | none=>rw[ho] at h;cases h
  | some o =>
   rw[ho] at h
   obtain⟨e,he0,hb⟩:=List.any_eq_true.1 h
   have he:e∈o.after:=Array.mem_toList_iff.1 he0
   simp only[Bool.and_eq_true,Bool.or_eq_true,beq_iff_eq] at hb
   obtain⟨hbi,hon⟩:=hb
   have hun:listed.getD e.on false=false:=by
    rcases hon with hon|hon
    ·
     rw[hon];exact hi
    ·
     exact (zcJ hc f i e.on hon hi).2
   constructor
   ·
    intro hr
    obtain⟨-,o',ho',hall⟩:=mem_ready.1 hr
    rw[ho] at ho'
    cases ho'
    rw[hall e he hbi] at hun
    cases hun
   ·
    cases hl:listed.getD t false with
    | false=>rfl
    | true =>
     rw[hc t o ho hl e he hbi] at hun
     cases hun
theorem zbe.set {listed:Array Bool}(hc:zbe md ops listed){i:Nat}(hi:i∈Region.ready md ops listed):zbe md ops (listed.setIfInBounds i true):=by
 intro j oj hj hl e he hb
 obtain⟨-,oi,hoi,hall⟩:=mem_ready.1 hi
 by_cases hij:i=j
 ·
  subst hij
  rw[hj] at hoi
  cases hoi
  exact getD_set_true (hall e he hb)
 ·
  rw[getD_set_ne false hij] at hl
  exact getD_set_true (hc j oj hj hl e he hb)
theorem zbP {listed:Array Bool}{i:Nat}(h:i∈Region.ready md ops listed):listed.getD i false=false:=by
 have h0:=(mem_ready.1 h).1
 rcases Nat.lt_or_ge i listed.size with h'|h'
 ·
  simp[h'] at h0 ⊢;exact h0
 ·
  simp[Array.getElem?_eq_none h'] at h0
variable {V X:World→Prop} {g:Nat} {Q:Exit→Act→World→Prop}
def AtG (V X:World→Prop)(g:Nat)(listed:Array Bool)(w:World):Prop:=V w∧(listed.getD g false=false→X w)
def zba (P:Program)(md:Region.Mode)(ops:Array Oper)(Q:Exit→Act→World→Prop)(V X:World→Prop)(g:Nat):Nat→Array Bool→Act→World→Prop
 | 0,listed,a,w=>Region.ready md ops listed=[]∧Q .normal a w
 | fuel+1,listed,a,w=>(Region.ready md ops listed=[]→Q .normal a w) ∧
  ∀ i∈Region.ready md ops listed,wpOp P ops Q i (fun a' w'=>AtG V X g (listed.setIfInBounds i true) w'∧zba P md ops Q V X g fuel (listed.setIfInBounds i true) a' w') a w
theorem zcK:∀ (fuel:Nat) (listed:Array Bool) (a:Act) (w:World),zba P md ops Q V X g fuel listed a w→wpAny P md ops Q fuel listed a w
 | 0,_,_,_,h=>h
 | fuel+1,_,_,_,h=>⟨h.1,fun i hi=>wpOp_mono (fun a' w' h'=>zcK fuel _ a' w' h'.2) (h.2 i hi)⟩
theorem AtG.back {i:Nat}{listed:Array Bool}{w:World}(hig:i≠g)(h:AtG V X g (listed.setIfInBounds i true) w):AtG V X g listed w:=
 ⟨h.1,fun hl=>h.2 (by rw[getD_set_ne false hig];exact hl)⟩
theorem zbH {i:Nat}{oi:Oper}{v:Value}(hi:ops[i]?=some oi)(hsel:∀ (j:Nat) (o:Oper) cs b,ops[j]?=some o→o.op≠ .select cs b)
  (hQ:∀ c a w,Q (.panic c) (a.put oi.dst v) w→Q (.panic c) a w) (hig:i≠g) (S:World→Prop) (hS:∀ (listed:Array Bool) w,zbe md ops listed→listed.getD i false=false→AtG V X g listed w→S w) :
  ∀ (fuel:Nat) (listed:Array Bool) (a:Act) (w:World),zbe md ops listed →
   (∀ j oj,ops[j]?=some oj→j≠i→listed.getD j true=false→(∀ e∈oj.after,Region.binds md e=true→e.on≠i)→oi.apart ops oj=true) →
   i∈Region.ready md ops listed→YieldsIf P ops S oi v a→AtG V X g listed w →
   zba P md ops Q V X g fuel (listed.setIfInBounds i true) (a.put oi.dst v) w→zba P md ops Q V X g (fuel+1) listed a w:=by
 have hput:∀ (listed:Array Bool) (w:World),AtG V X g listed w→AtG V X g (listed.setIfInBounds i true) w:=fun listed w h =>
  ⟨h.1,fun hl=>h.2 (by rw[getD_set_ne false hig] at hl;exact hl)⟩
 intro fuel
 induction fuel with
 | zero =>
  intro listed a w hc _ hr hy hA H
  refine⟨fun h=>(by rw[h] at hr;cases hr),fun j hj=>?_⟩
  by_cases hji:j=i
  ·
   subst hji;exact hy.wpOp hi (hS listed w hc (zbP hr) hA) ⟨hput _ _ hA,H⟩
  ·
   have:=ready_mono hj hji
   rw[H.1] at this
   cases this
 | succ fuel ih =>
  intro listed a w hc hfree hr hy hA H
  refine⟨fun h=>(by rw[h] at hr;cases hr),fun j hj=>?_⟩
  by_cases hji:j=i
  ·
   subst hji;exact hy.wpOp hi (hS listed w hc (zbP hr) hA) ⟨hput _ _ hA,H⟩
  ·
   have h1:=H.2 j (ready_mono hj hji)
   obtain⟨hjun,oj,hoj,hall⟩:=mem_ready.1 hj
   have hnot:∀ e∈oj.after,Region.binds md e=true→e.on≠i:=fun e he hb heq=>by
    have h2:=hall e he hb
    rw[heq,zbP hr] at h2
    cases h2
   have h2:=wpOp_putIf hoj (hfree j oj hoj hji hjun hnot) (fun cs b=>hsel i oi cs b hi) (fun cs b=>hsel j oj cs b hoj) hQ hy h1
   have hfree':∀ k ok,ops[k]?=some ok→k≠i→(listed.setIfInBounds j true).getD k true=false →
     (∀ e∈ok.after,Region.binds md e=true→e.on≠i)→oi.apart ops ok=true:=fun k ok hk hki hun hno=>by
    refine hfree k ok hk hki ?_ hno
    by_cases hjk:j=k
    ·
     subst hjk;exact hjun
    ·
     rw[getD_set_ne true hjk] at hun;exact hun
   refine wpOp_mono (fun a' w' h3=>?_) h2
   obtain⟨h4,h5,h6⟩:=h3
   rw[Array.setIfInBounds_comm _ _ (Ne.symm hji)] at h5 h6
   exact⟨h5.back hig,ih (listed.setIfInBounds j true) a' w' (hc.set hj) hfree' (ready_mono hr (Ne.symm hji)) h4 (h5.back hig) h6⟩
theorem znQ {o:Oper}{a:Act}{w:World}{K K':Act→World→Prop}{Q':Exit→Act→World→Prop}(hK:∀ a w,K a w→K' a w)(hP:∀ c a w,Q (.panic c) a w→Q' (.panic c) a w)(hL:LetsOut Q→LetsOut Q')(h:o.wp P a w K Q):o.wp P a w K' Q':=by
 unfold Oper.wp at *
 generalize (execOp a.eval o).run P w=r at *
 cases r with
 | ok n w' =>
  cases n <;> simp only[Oper.upon] at h ⊢
  case value u=>exact hK _ _ h
  case skip=>exact hK _ _ h
  case defer d=>exact hK _ _ h
  case enter f args =>
   refine Calls.mono h fun e w'' he=>?_
   cases e with
   | returned u=>exact hK _ _ he
   | panicked c=>exact hP _ _ _ he
   | outgrown=>exact hL he
  case row row args=>exact Go.Rows.mono h fun u w'' he=>hK _ _ he
 | halt x w' =>
  cases x <;> simp only[Oper.upon] at h ⊢
  case panic u=>exact hP _ _ _ h
theorem zie {k:Nat}{o:Oper}{fuel:Nat}{listed:Array Bool}{a:Act}{w:World}(hr:Region.ready md ops listed=[k])(hk:ops[k]?=some o)
  (hg:(listed.setIfInBounds k true).getD g false=true)
  (h:∀ K:Exit→Act→World→Prop,Hid (∀ a' w',V w'→(V w'→zba P md ops Q V X g fuel (listed.setIfInBounds k true) a' w')→K .normal a' w')→wpList P ops K [o] a w) :
  zba P md ops Q V X g (fuel+1) listed a w:=by
 refine⟨fun h1=>(by rw[hr] at h1;cases h1),fun i hi=>?_⟩
 rw[hr] at hi
 have hik:i=k:=by simpa using hi
 subst hik
 have h2:=h (fun e a' w'=>match e with
  | .normal=>AtG V X g (listed.setIfInBounds i true) w'∧zba P md ops Q V X g fuel (listed.setIfInBounds i true) a' w'
  | e=>Q e a' w') (hid fun a' w' hV hK=>⟨⟨hV,fun hl=>by rw[hg] at hl;cases hl⟩,hK hV⟩)
 unfold wpOp
 simp only[hk]
 rw[wpList] at h2
 split at h2
 ·
  rename_i hw
  simp only[hw,if_true]
  exact h2.imp (znQ (fun _ _ h=>h) (fun _ _ _ h=>h) (fun h=>h)) (fun h=>⟨h.1,h.2⟩)
 ·
  rename_i hw
  simp only[hw]
  exact h2
def zm2 (P:Program)(ops:Array Oper)(Q:Exit→Act→World→Prop)(V X:World→Prop):List Nat→List Oper→Act→World→Prop
 | 0::ts,o::os,a,w=>∃ v,(∀ w,V w→(execOp a.eval o).run P w= .ok (.value v) w)∧zm2 P ops Q V X ts os (a.put o.dst v) w
 | 1::ts,o::os,a,w=>∃ v,(∀ w,X w→(execOp a.eval o).run P w= .ok (.value v) w)∧zm2 P ops Q V X ts os (a.put o.dst v) w
 | _::ts,o::os,a,w=>∀ K:Exit→Act→World→Prop,Hid (∀ a' w',V w'→(V w'→zm2 P ops Q V X ts os a' w')→K .normal a' w')→wpList P ops K [o] a w
 | _,_,a,w=>Q .normal a w
theorem zbI {o:Oper}{y:Nat→Option Bool}(h:o.guard.isNone=true):Region.wanted o y=true:=by
 have h':o.guard=none:=by simpa using h
 simp[Region.wanted,h']
theorem pzC {α:Type} (l:List α) (i:Nat) (a:α):l.toArray.setIfInBounds i a=(l.set i a).toArray:=List.setIfInBounds_toArray l i a
theorem pzD {α:Type} (x:α) (l:List α) (a:α):(x::l).set 0 a=a::l:=List.set_cons_zero
theorem pzE {α:Type} (x:α) (l:List α) (n:Nat) (a:α):(x::l).set (n+1) a=x::l.set n a:=List.set_cons_succ
theorem zav {ts:List Nat}{o:Oper}{os:List Oper}{a:Act}{w:World}{v:Value}(hy:∀ w,V w→(execOp a.eval o).run P w= .ok (.value v) w)(h:zm2 P ops Q V X ts os (a.put o.dst v) w):zm2 P ops Q V X (0::ts) (o::os) a w:=⟨v,hy,h⟩
theorem zhI {ts:List Nat}{o:Oper}{os:List Oper}{a:Act}{w:World}{v:Value}(hy:∀ w,X w→(execOp a.eval o).run P w= .ok (.value v) w)(h:zm2 P ops Q V X ts os (a.put o.dst v) w):zm2 P ops Q V X (1::ts) (o::os) a w:=⟨v,hy,h⟩
theorem zcY {ts:List Nat}{o:Oper}{os:List Oper}{a:Act}{w:World}(h:∀ K:Exit→Act→World→Prop,Hid (∀ a' w',V w'→(V w'→zm2 P ops Q V X ts os a' w')→K .normal a' w')→wpList P ops K [o] a w):zm2 P ops Q V X (2::ts) (o::os) a w:=h
theorem zcE {a:Act}{w:World}(h:Q .normal a w):zm2 P ops Q V X [] [] a w:=h
end
end Go.Proofs.YtdpnmdkbdibkpaaGreatDoor
