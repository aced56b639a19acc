/- algebra.set: a value set in a meaning at a way (setM). Meanings of at most 2^29 things, ways of at most 2^30 numbers. -/
import Derived.Test.YtdpnmdkbdibkpaaGreatDoorZ16
import Derived.Test.YtdpnmdkbdibkpaaGreatDoorZ20
import Derived.Test.YtdpnmdkbdibkpaaGreatDoorZ26
import Derived.Test.YtdpnmdkbdibkpaaGreatDoorZ32
import Derived.Deep.CutRange
namespace Go.Proofs.YtdpnmdkbdibkpaaGreatDoor
set_option maxRecDepth 100000
set_option maxHeartbeats 16000000
section
open Go.RowKit Go.Maps Go.Shelf
theorem zgf {P:Program}{w:World}{ops:Array Oper}{rest:List Oper}{o:Oper}{a:Act}{Q:Exit→Act→World→Prop}(hgd:o.guard=none)(s x:Operand)(t k:TypeId)
  (ho:o.op= .call { callee:=.builtin .delete,args:=#[s,x],argTypes:=#[t,k] }) (v xv:Value) (hs:a.eval s=v) (hx:a.eval x=xv) {v':Value} {w':World}
  (hr:(Builtin.delete_ #[t,k] o.type #[v,xv]).run P w= .ok v' w') (h:wpList P ops Q rest (a.put o.dst v') w'):wpList P ops Q (o::rest) a w:=
 wpList_plain hgd fun _ hK=>by
  unfold Oper.wp execOp
  simp only[ho,resolve,invoke,builtin,Sem.run_bind,Sem.run_pure,Result.andThen_ok,List.map_toArray,List.map_cons,List.map_nil,hs,hx,hr]
  exact hK _ _ h
theorem zin {w:World}{a:Option Addr}{n cap:Nat}{x:Int}{r:List Int}(h:zar w (.slice a n cap) (x::r))(hn:n=r.length+1) :
  ∃ a' c',(∀ W,(Instr.slice 28 (.slice a n cap) (some (.int .i64 1)) none none).run Tryz.prog W= .ok (.slice a' r.length c') W)∧zar w (.slice a' r.length c') r:=by
 obtain⟨a',c',h1,h2⟩:=h.l (by simpa using hn) 1 (by omega)
 refine⟨a',c',fun W=>?_,?_⟩
 ·
  have:=h1 W
  rw[hn,Nat.add_sub_cancel] at this
  rw[hn]
  exact this
 ·
  rw[hn,Nat.add_sub_cancel] at h2
  exact h2
theorem zcv.cons {d:Nat}{P:Value→Val (M d)→Prop}{e:Int × Value}{g:Val (M d)}{es:List (Int × Value)}{gs:List (Val (M d))}:zcv P (e::es) (g::gs)↔(e.1=g.num∧P e.2 g)∧zcv P es gs:=by
 constructor
 ·
  intro h
  have hk:=h.keys
  rw[List.map_cons,List.map_cons] at hk
  obtain⟨h1,h2⟩:=List.cons.inj hk
  exact⟨⟨h1,h.at' 0 e g rfl rfl⟩,h2,fun i e g h3 h4=>h.at' (i+1) e g (by simpa using h3) (by simpa using h4)⟩
 ·
  rintro⟨⟨h1,h2⟩,h3⟩
  refine⟨by rw[List.map_cons,List.map_cons,h1,h3.keys],fun i e' g' h4 h5=>?_⟩
  cases i with
  | zero =>
   simp at h4 h5
   subst h4 h5
   exact h2
  | succ i=>exact h3.at' i e' g' (by simpa using h4) (by simpa using h5)
theorem zcv.del {d:Nat}{P:Value→Val (M d)→Prop}(n:Int):∀ {es:List (Int × Value)} {gs:List (Val (M d))},zcv P es gs→zcv P (zpa n es) (zm1 n gs)
 | [],[],_=>zcv.nil P
 | [],g::gs,h=>by have:=h.keys;simp at this
 | e::es,[],h=>by have:=h.keys;simp at this
 | e::es,g::gs,h=>by
  obtain⟨⟨h1,h2⟩,h3⟩:=zcv.cons.1 h
  have ih:=zcv.del n h3
  unfold zpa zm1 at *
  by_cases hn:e.1=n
  ·
   rw[List.filter_cons,List.filter_cons,if_neg (by simpa using hn),if_neg (by simpa using h1.symm.trans hn)]
   exact ih
  ·
   rw[List.filter_cons,List.filter_cons,if_pos (by simpa using hn),if_pos (by simpa using fun e=>hn (h1.trans e))]
   exact zcv.cons.2 ⟨⟨h1,h2⟩,ih⟩
structure zgg (d n0 B:Nat)(w wx:World)(X r:Nat)(xc:List Value)(unk:List (List UInt8))(goal:M (d+1))(es:List (Int × Value))(gs l:List (Val (M d))):Prop where
 map:zm3 wx r es
 vals:zo2 d n0 B wx es gs
 nd:(gs.map (·.num)).Nodup
 rise:zbc l
 get:∀ n,zbu l n=zbu gs n
 len:l.length≤1073741824
 goal':goal=(⟨l,unk⟩:zec (M d))
 bx:Blk wx X xc 27
 br:Blk wx (X+1+1) [.slice none 0 0,.slice none 0 0] 27
 below:Below X w wx
 big:B≤wx.heap.size
theorem zgg.later {d n0 B:Nat}{w wx w':World}{X r:Nat}{xc:List Value}{unk:List (List UInt8)}{goal:M (d+1)}{es:List (Int × Value)}{gs l:List (Val (M d))}(h:zgg d n0 B w wx X r xc unk goal es gs l)(hX:X≤wx.heap.size)(hb:Below wx.heap.size wx w'):zgg d n0 B w w' X r xc unk goal es gs l:=
 ⟨h.map.later hb,zcv.imp h.vals fun _ _ h=>h.later hb,h.nd,h.rise,h.get,h.len,h.goal',h.bx.below hb,h.br.below hb,h.below.trans (hb.mono hX),Nat.le_trans h.big hb.size⟩
def zpI (m:Nat)(way:List Int):Prop:=∀ (w0 w:World) (xv yv vv:Value) (x:M (m+way.length)) (v:Val (M m)),Below w0.heap.size w0 w→zac (m+way.length) w0 xv x→zar w0 yv way→zat (zac m) w0 vv v→zge way x→mwt (m+way.length) x≤536870912 →
 Calls Tryz.prog 28 #[xv,yv,vv] w fun e w'=>∃ v',e= .returned v'∧Below w.heap.size w w'∧zap w0.heap.size w.heap.size w' fun W=>zac (m+way.length) W v' (zdj way x v)
theorem zk9 {m:Nat}(w0 w:World)(xv vv yv:Value)(n:Int)(x:M (m+1))(v:Val (M m))(hw:Below w0.heap.size w0 w)(hx:zac (m+1) w0 xv x)(hy:zar w0 yv [n])(hv:zat (zac m) w0 vv v)(hrise:zbc (M.vals x))(hwt:mwt (m+1) x≤536870912)(goal:M (m+1))(hgoal:goal=(⟨zoK n v (M.vals x),M.unk x⟩:zec (M m))) :
  Calls Tryz.prog 28 #[xv,yv,vv] w fun e w'=>∃ v',e= .returned v'∧Below w.heap.size w w'∧zap w0.heap.size w.heap.size w' fun W=>zac (m+1) W v' goal:=by
 have HGO:=hid hgoal
 clear hgoal
 have HWV:=hid hv
 have HWT:=hid hwt
 have HW0:=hid hw
 have HXM:=hid hx
 have HIY:=hid hy
 obtain⟨V1,V2,V3,rfl,hvn,hVW,hVT,hVS⟩:=hv
 obtain⟨-,s1,t1,rfl,-,-⟩:=hVW.open
 obtain⟨-,s2,t2,rfl,-,-⟩:=hVT.open
 obtain⟨-,s3,t3,rfl,-,-⟩:=hVS.open
 obtain⟨k1,HK1⟩:∃ n,Hid (n=v.words.length):=⟨_,rfl⟩
 obtain⟨k2,HK2⟩:∃ n,Hid (n=v.texts.length):=⟨_,rfl⟩
 obtain⟨k3,HK3⟩:∃ n,Hid (n=v.subs.length):=⟨_,rfl⟩
 obtain⟨vn,HVN⟩:∃ n,Hid (n=v.num):=⟨_,rfl⟩
 rw[←HK1.out,←HK2.out,←HK3.out,←HVN.out] at HWV ⊢
 rw[←HK1.out] at hVW
 rw[←HK2.out] at hVT
 rw[←HK3.out] at hVS
 have HVV:=hid (And.intro hVW (And.intro hVT hVS))
 obtain⟨p1,n1,c1,p2,n2,c2,rfl⟩:=hx.form
 obtain⟨-,ya,yc,rfl,-,hyat⟩:=hy.open
 obtain⟨yb,yo,hyb,hyc,hni⟩:∃ b o,ya=some ⟨b,o,none⟩∧w0.cell? ⟨b,o,none⟩=some (.int .i64 n)∧zcb n:=by
  obtain⟨h0,b,o,h1,h2⟩:=hyat 0 n rfl
  exact⟨b,o,h1,by simpa [zoG] using h2,h0⟩
 subst hyb
 obtain⟨yn,HYN⟩:∃ q,Hid (q=([n]).length):=⟨_,rfl⟩
 rw[←HYN.out] at HIY ⊢
 have HNI:=hid hni
 have HRI:=hid hrise
 obtain⟨vv',uv',e',-,hU⟩:=hx
 obtain rfl:uv'= .slice p2 n2 c2:=by cases e';rfl
 have HUU:=hid hU
 obtain⟨Q,HQ⟩:∃ Q:Ending→World→Prop,Hid (Q=fun e w'=>∃ v',e= .returned v'∧Below w.heap.size w w'∧zap w0.heap.size w.heap.size w' fun W=>zac (m+1) W v' goal):=⟨_,rfl⟩
 rw[←HQ.out]
 obtain⟨X,HX⟩:∃ X,Hid (X=w.heap.size):=⟨_,rfl⟩
 obtain⟨W1,HW1⟩:∃ W,Hid (W=((w.alloc (.cells #[.slice p1 n1 c1,.slice p2 n2 c2] 27)).alloc (.cells #[.int .i64 vn,.slice s1 k1 t1,.slice s2 k2 t2,.slice s3 k3 t3] 32)).alloc (.cells #[.slice none 0 0,.slice none 0 0] 27)):=⟨_,rfl⟩
 obtain⟨hx1,hv1,hr1,hz1,hb1⟩:=zjK w [.slice p1 n1 c1,.slice p2 n2 c2] [.int .i64 vn,.slice s1 k1 t1,.slice s2 k2 t2,.slice s3 k3 t3] [.slice none 0 0,.slice none 0 0] 27 32 27
 rw[←HW1.out,←HX.out] at hx1 hv1 hr1 hz1 hb1
 have hb1w:Below w.heap.size w W1:=by rw[←HX.out];exact hb1
 have hb01:Below w0.heap.size w0 W1:=hw.trans (hb1w.mono hw.size)
 have HBY:=hid (zlE hb01 HXM.out hrise)
 have HB1:=hid hb1w
 have HBK:=hid (And.intro hx1 (And.intro hv1 hr1))
 have HZ1:=hid hz1
 have x0:=hx1.cell 0 _ rfl
 have x1:=hx1.cell 1 _ rfl
 have xl:=hx1.lt
 have y0:=zaa hb01 _ _ hyc
 have yl:=World.block_lt_of_cell? W1 _ y0
 have hixy:∀ W,(Instr.indexAt 28 (.slice (some ⟨yb,yo,none⟩) yn yc) (.int .i64 0)).run Tryz.prog W= .ok (.pointer (some ⟨yb,yo,none⟩)) W:=by
  intro W
  have:=zag Tryz.underlying28 zhg (a:=some ⟨yb,yo,none⟩) rfl 0 (by rw[HYN.out];simp:0<yn) W (cap:=yc)
  simpa using this
 clear hw hy hrise hwt hvn hVW hVT hVS hyat hyc hni e' hU hx1 hv1 hr1 hz1 hb1 hb1w hb01
 go_enter Tryz.func28,Tryz.ntmps28
 go_upto_region 1 with fail
 rw[←HW1.out,←HX.out]
 go_upto_region 2 with fail
 clear y0 yl hixy
 go_wp2_with fail
 refine HBY.out.mono ?_
 rintro e w2 ⟨r,es,rfl,hmp,hva,hr2,hb2⟩
 have HMP:=hid (And.intro hmp hva)
 have HR2:Hid (W1.heap.size≤r∧r<w2.heap.size):=⟨hr2,(Array.getElem?_eq_some_iff.1 hmp).1⟩
 have HB2:=hid (HB1.out.trans (hb2.mono HB1.out.size))
 have HBK2:=hid (And.intro (HBK.out.1.below hb2) (And.intro (HBK.out.2.1.below hb2) (HBK.out.2.2.below hb2)))
 have hnd:(es.map Prod.fst).Nodup:=by rw[hva.keys];exact HRI.out.nodup
 have HND:=hid hnd
 have hlk:=zg4 hmp n true
 clear hmp hva hr2 hb2 hnd HBY HBK x0 x1 xl
 obtain⟨oc,HOC⟩:∃ c:VS,Hid ((zal n es).getD (.agg #[.int .i64 0,.slice none 0 0,.slice none 0 0,.slice none 0 0])=c.val∧∀ u,zal n es=some u→u=c.val):=by
  cases hg:zal n es with
  | none=>exact⟨⟨0,none,0,0,none,0,0,none,0,0⟩,rfl,fun u h=>by cases h⟩
  | some u =>
   obtain⟨g,-,-,hP⟩:=HMP.out.2.get hg
   obtain⟨-,c,rfl,-⟩:=zh9 hP
   exact⟨c,rfl,fun u h=>by injection h with h;exact h.symm⟩
 obtain⟨th,HTH⟩:∃ b,Hid (b=(zal n es).isSome):=⟨_,rfl⟩
 rw[HOC.out.1,←HTH.out] at hlk
 obtain⟨on,o1,q1,d1,o2,q2,d2,o3,q3,d3⟩:=oc
 simp only[VS.val,if_true] at hlk
 obtain⟨OB,HOB⟩:∃ b,Hid (b=w2.heap.size):=⟨_,rfl⟩
 obtain⟨W4,HW4⟩:∃ W,Hid (W=w2.alloc (.cells #[.int .i64 on,.slice o1 q1 d1,.slice o2 q2 d2,.slice o3 q3 d3] 32)):=⟨_,rfl⟩
 have hb4:Below w2.heap.size w2 W4:=by rw[HW4.out];exact (Below.refl _ _).alloc (Nat.le_refl _) _
 have ho4:Blk W4 OB [.int .i64 on,.slice o1 q1 d1,.slice o2 q2 d2,.slice o3 q3 d3] 32:=by rw[HW4.out,HOB.out];exact Blk.new w2 [.int .i64 on,.slice o1 q1 d1,.slice o2 q2 d2,.slice o3 q3 d3] _
 have HB4:=hid (HB2.out.trans (hb4.mono HB2.out.size))
 have HBK4:=hid (And.intro (HBK2.out.1.below hb4) (And.intro (HBK2.out.2.1.below hb4) (And.intro (HBK2.out.2.2.below hb4) ho4)))
 obtain⟨B,HBB⟩:∃ b,Hid (b=W4.heap.size):=⟨_,rfl⟩
 have HSZ:Hid (w0.heap.size≤X∧X+1+1<r∧r<OB∧OB<B∧w.heap.size=X):=by
  have h1:=HW0.out.size
  have h2:=HX.out
  have h3:=HZ1.out
  have h4:=HR2.out
  have h5:=HOB.out
  have h6:=ho4.lt
  have h7:=HBB.out
  show _∧_
  omega
 have HB04:=hid (HW0.out.trans (HB4.out.mono HW0.out.size))
 have HM4:Hid (zas W4 r zbK es∧zo2 m w0.heap.size B W4 es (M.vals x)):=⟨zaX HMP.out.1 hb4,zcv.imp HMP.out.2 fun v g h=>zbz rfl HB04.out fun W hk=>VMsg.keep h hk⟩
 have hvl:(M.vals x).length≤536870912:=Nat.le_trans (zdU x) HWT.out
 have HVL:=hid hvl
 have HKB:=hid HMP.out.2
 have HTV:=hid (fun W (hW:Below W4.heap.size W4 W)=>zfK (w:=W) (VMsg.keep HWV.out (zaa (HB04.out.trans (hW.mono HB04.out.size))):zat (zac m) W _ v))
 -- where the ways meet
 have HEND:Hid (∀ (wx:World) (es':List (Int × Value)) (gs l:List (Val (M m))),zgg m w0.heap.size B w wx X r [.slice p1 n1 c1,.slice p2 n2 c2] (M.unk x) goal es' gs l →
   Calls Tryz.prog 65 #[.map (some r),.slice p2 n2 c2] wx fun e w'=>∃ v',e= .returned v'∧Below wx.heap.size wx w'∧zap w0.heap.size B w' fun W=>zac (m+1) W v' goal):=by
  intro wx es' gs l h
  have hle:=zgu h.rise h.get h.nd
  rw[h.goal']
  exact zkS h.map h.vals h.big h.nd (by have:=h.len;omega) (zbz rfl (HW0.out.trans ((h.below.mono (Nat.le_of_eq HX.out.symm)).mono HW0.out.size)) fun W hk=>HUU.out.keep hk) h.rise h.get
 have HV0:Hid (M.vals x=M.vals x):=rfl
 have o3':=ho4.cell 3 _ rfl
 have ol:=ho4.lt
 have v0:=HBK4.out.2.1.cell 0 _ rfl
 have v1:=HBK4.out.2.1.cell 1 _ rfl
 have v2:=HBK4.out.2.1.cell 2 _ rfl
 have v3:=HBK4.out.2.1.cell 3 _ rfl
 have vl:=HBK4.out.2.1.lt
 clear hb4 ho4 hvl HMP HB1 HB2 HBK2 HR2 HZ1 HW1
 go_upto_block 0 with fail
 rw[←HW4.out,←HOB.out]
 clear hlk
 obtain⟨mv,HMV⟩:∃ q,Hid (q=zcD v):=⟨_,rfl⟩
 rw[←HMV.out] at HTV
 obtain rfl:yn=1:=HYN.out
 have hev:((mv:Int) == 0)=decide (mv=0):=by
  by_cases h:mv=0
  ·
   simp[h]
  ·
   simp[h]
 go_cut [] from 22 to 70 (fun wx=>∃ (es':List (Int × Value)) (gs l:List (Val (M m))),Hid (zgg m w0.heap.size B w wx X r [.slice p1 n1 c1,.slice p2 n2 c2] (M.unk x) goal es' gs l))
 case first =>
  go_upto_if 22 with (go_at_call 25;refine (HTV.out W4 (Below.refl _ _)).mono ?_;rintro e w5 ⟨rfl,hb5⟩)
  have HB5:=hid hb5
  have hm5:=zaX HM4.out.1 hb5
  have HV5:Hid (zo2 m w0.heap.size B w5 es (M.vals x)):=zcv.imp HM4.out.2 fun v g h=>h.later hb5
  have HBK5:=hid (And.intro (HBK4.out.1.below hb5) (And.intro (HBK4.out.2.1.below hb5) (HBK4.out.2.2.1.below hb5)))
  have hbx5:Below X w w5:=by rw[HX.out];exact HB4.out.trans (hb5.mono HB4.out.size)
  have HBX5:=hid hbx5
  have HM5:=hid hm5
  clear hb5 o3' ol v0 v1 v2 v3 vl hbx5 hev
  by_cases h0:mv=0
  ·
   obtain⟨w6,hr6,hm6,hb6⟩:=znZ hm5.g HND.out n
   have HST:Hid (zgg m w0.heap.size B w w6 X r [.slice p1 n1 c1,.slice p2 n2 c2] (M.unk x) goal (zpa n es) (zm1 n (M.vals x)) (zm1 n (M.vals x))):=by
    have hsz:=HSZ.out
    have hri:=HRI.out
    refine⟨hm6,zcv.imp (zcv.del n HV5.out) fun v g h=>zfd h hb6 (by omega) (by omega),(zjQ hri).nodup,zjQ hri,fun _=>rfl,Nat.le_trans (List.length_filter_le _ _) (Nat.le_trans HVL.out (by decide)),?_,hb6.blk HBK5.out.1 (by omega),hb6.blk HBK5.out.2.2 (by omega),HBX5.out.trans (hb6.to_below (by omega) (by have:=HBX5.out.size;omega)),?_⟩
    ·
     rw[HGO.out]
     unfold zoK
     rw[if_pos (by rw[←HMV.out];exact h0)]
    ·
     rw[HBB.out];exact Nat.le_trans HB5.out.size hb6.size
   subst h0
   clear hm6 hb6 hm5
   go_wp2_with (refine zgf rfl _ _ _ _ rfl _ _ rfl rfl (hr6 _) ?_)
   go_meet
   case rel=>exact⟨_,_,_,HST.out⟩
  ·
   have hd0:decide (mv=0)=false:=decide_eq_false h0
   have w0':=HBK5.out.2.1.cell 0 _ rfl
   have w1':=HBK5.out.2.1.cell 1 _ rfl
   have w2':=HBK5.out.2.1.cell 2 _ rfl
   have w3':=HBK5.out.2.1.cell 3 _ rfl
   have wf:=HBK5.out.2.1.free 0
   have wl:=HBK5.out.2.1.lt
   have hv6:=HBK5.out.2.1.set 0 (.int .i64 n)
   obtain⟨W6,HW6⟩:∃ W,Hid (W=w5.setCell ⟨X+1,0,none⟩ (.int .i64 n)):=⟨_,rfl⟩
   rw[←HW6.out] at hv6
   have hbt6:But (X+1) w5 W6:=by rw[HW6.out];exact But.set HBK5.out.2.1 0 _
   have hm6:zas W6 r zbK es:=(hbt6.block r (Array.getElem?_eq_some_iff.1 hm5).1 (by have:=HSZ.out;omega)).trans hm5
   have hmu:=zia hm6 n (.agg #[.int .i64 n,.slice s1 k1 t1,.slice s2 k2 t2,.slice s3 k3 t3])
   have HST:Hid (zgg m w0.heap.size B w (za9 W6 r zbK (zf2 n (.agg #[.int .i64 n,.slice s1 k1 t1,.slice s2 k2 t2,.slice s3 k3 t3]) es)) X r [.slice p1 n1 c1,.slice p2 n2 c2] (M.unk x) goal (zf2 n (.agg #[.int .i64 n,.slice s1 k1 t1,.slice s2 k2 t2,.slice s3 k3 t3]) es) (zoH ⟨n,v.words,v.texts,v.subs⟩ (M.vals x)) (zdk ⟨n,v.words,v.texts,v.subs⟩ (M.vals x))):=by
    have hsz:=HSZ.out
    have hri:=HRI.out
    have hrl:=(Array.getElem?_eq_some_iff.1 hm6).1
    have hB5:B≤w5.heap.size:=by rw[HBB.out];exact HB5.out.size
    have hbx6:Below X w W6:=HBX5.out.trans (hbt6.to_below (by omega) (by have:=HBX5.out.size;omega))
    have hnum:zap w0.heap.size B W6 fun W=>zat (zac m) W (.agg #[.int .i64 n,.slice s1 k1 t1,.slice s2 k2 t2,.slice s3 k3 t3]) (⟨n,v.words,v.texts,v.subs⟩:Val (M m)):=
     zbz rfl (HW0.out.trans ((hbx6.mono (by omega)).mono HW0.out.size)) fun W hk=>⟨_,_,_,rfl,by have:=HNI.out;unfold zcb at this;exact this,HVV.out.1.keep hk,HVV.out.2.1.keep hk,HVV.out.2.2.keep hk fun _ _ h=>h.keep hk⟩
    have hput:=zcv.put (zcv.imp HV5.out fun v g h=>zfd h hbt6 (by omega) (by omega)) HND.out hnum
    refine⟨(zb8 hrl).g,zcv.imp hput fun v g h=>zfc h (by omega) (by omega),?_,zcV hri,fun k=>?_,?_,?_,zaO.blk (hbt6.blk HBK5.out.1 (by omega)) (by omega),zaO.blk (hbt6.blk HBK5.out.2.2 (by omega)) (by omega),hbx6.trans (zaO.to_below (by omega) (by have:=hbx6.size;omega)),?_⟩
    ·
     rw[←hput.keys];exact zdM HND.out
    ·
     rw[zeB hri,zgq]
    ·
     have:=zi4 (⟨n,v.words,v.texts,v.subs⟩:Val (M m)) (M.vals x)
     have:=HVL.out
     omega
    ·
     rw[HGO.out]
     unfold zoK
     rw[if_neg (by rw[←HMV.out];exact h0)]
    ·
     rw[za6];exact Nat.le_trans hB5 hbt6.size
   have u0:=hv6.cell 0 _ rfl
   have u1:=hv6.cell 1 _ rfl
   have u2:=hv6.cell 2 _ rfl
   have u3:=hv6.cell 3 _ rfl
   have ul:=hv6.lt
   rw[HW6.out] at u0 u1 u2 u3 ul hmu HST
   clear hv6 hbt6 hm6 hm5 HW6
   go_wp2_with fail
   go_meet
   case rel=>exact⟨_,_,_,HST.out⟩
 case rest =>
  obtain⟨es',gs,l,HS⟩:=hcut
  have x1:=HS.out.bx.cell 1 _ rfl
  have xl:=HS.out.bx.lt
  have HOF:=hid (HEND.out wc es' gs l HS.out)
  go_wp2_with fail
  refine HOF.out.mono ?_
  rintro e w7 ⟨v7,rfl,hb7,hap7⟩
  obtain⟨a1,a2,a3,a4,a5,a6,rfl⟩:=hap7.here.form
  have hr7:=HS.out.br.below hb7
  have hw7:=HS.out.below.trans (hb7.mono (Nat.le_of_lt HS.out.bx.lt))
  have r0:=hr7.cell 0 _ rfl
  have r1:=hr7.cell 1 _ rfl
  have f0:=hr7.free 0
  have f1:=hr7.free 1
  have rl:=hr7.lt
  have z1:=hr7.set 0 (.slice a1 a2 a3)
  have z2:=z1.set 1 (.slice a4 a5 a6)
  have q0:=z2.cell 0 _ rfl
  have q1':=z2.cell 1 _ rfl
  have HE:Hid (Q (.returned (.agg #[.slice a1 a2 a3,.slice a4 a5 a6])) ((w7.setCell ⟨X+1+1,0,none⟩ (.slice a1 a2 a3)).setCell ⟨X+1+1,1,none⟩ (.slice a4 a5 a6))):=by
   have hsz:=HSZ.out
   rw[HQ.out]
   refine⟨_,rfl,?_,fun W hW=>hap7 W fun b hb hc=>?_⟩
   ·
    rw[hsz.2.2.2.2]
    exact (hw7.setCell (by show X≤X+1+1;omega) _).setCell (by show X≤X+1+1;omega) _
   ·
    have hne:b≠X+1+1:=by omega
    rw[hW b (by simpa using hb) (by omega),Below.heap_setCell _ _ _ b hne,Below.heap_setCell _ _ _ b hne]
  clear hr7 z1 z2 hap7 hb7 hw7 HS HOF
  go_wp2_with fail
  refine bodyPost_ret (v:=.agg #[.slice a1 a2 a3,.slice a4 a5 a6]) ?_ rfl HE.out
  simp[results,Tryz.results28,go_sem,q0,q1']
theorem zki {m:Nat}(w0 w:World)(xv vv yv:Value)(n k:Int)(rest:List Int)(x:M (m+(k::rest).length+1))(v:Val (M m))(hrec:zpI m (k::rest))(hw:Below w0.heap.size w0 w)(hx:zac (m+(k::rest).length+1) w0 xv x)(hy:zar w0 yv (n::k::rest))(hv:zat (zac m) w0 vv v)(hrise:zbc (M.vals x))(hsub:∀ w,zbu (M.vals x) n=some w→∃ y,w.subs=[y]∧zge (k::rest) y)(hwt:mwt (m+(k::rest).length+1) x≤536870912)(goal:M (m+(k::rest).length+1))(hgoal:goal=zdj (n::k::rest) x v) :
  Calls Tryz.prog 28 #[xv,yv,vv] w fun e w'=>∃ v',e= .returned v'∧Below w.heap.size w w'∧zap w0.heap.size w.heap.size w' fun W=>zac (m+(k::rest).length+1) W v' goal:=by
 have HGO:=hid hgoal
 have HSUB:=hid hsub
 have HRC:=hid hrec
 clear hgoal hsub hrec
 have HWV:=hid hv
 have HWT:=hid hwt
 have HW0:=hid hw
 have HXM:=hid hx
 have HIY:=hid hy
 obtain⟨V1,V2,V3,rfl,hvn,hVW,hVT,hVS⟩:=hv
 obtain⟨-,s1,t1,rfl,-,-⟩:=hVW.open
 obtain⟨-,s2,t2,rfl,-,-⟩:=hVT.open
 obtain⟨-,s3,t3,rfl,-,-⟩:=hVS.open
 obtain⟨k1,HK1⟩:∃ n,Hid (n=v.words.length):=⟨_,rfl⟩
 obtain⟨k2,HK2⟩:∃ n,Hid (n=v.texts.length):=⟨_,rfl⟩
 obtain⟨k3,HK3⟩:∃ n,Hid (n=v.subs.length):=⟨_,rfl⟩
 obtain⟨vn,HVN⟩:∃ n,Hid (n=v.num):=⟨_,rfl⟩
 rw[←HK1.out,←HK2.out,←HK3.out,←HVN.out] at HWV ⊢
 rw[←HK1.out] at hVW
 rw[←HK2.out] at hVT
 rw[←HK3.out] at hVS
 have HVV:=hid (And.intro hVW (And.intro hVT hVS))
 obtain⟨p1,n1,c1,p2,n2,c2,rfl⟩:=hx.form
 obtain⟨-,ya,yc,rfl,-,hyat⟩:=hy.open
 obtain⟨yb,yo,hyb,hyc,hni⟩:∃ b o,ya=some ⟨b,o,none⟩∧w0.cell? ⟨b,o,none⟩=some (.int .i64 n)∧zcb n:=by
  obtain⟨h0,b,o,h1,h2⟩:=hyat 0 n rfl
  exact⟨b,o,h1,by simpa [zoG] using h2,h0⟩
 subst hyb
 obtain⟨yn,HYN⟩:∃ q,Hid (q=(n::k::rest).length):=⟨_,rfl⟩
 rw[←HYN.out] at HIY ⊢
 have HNI:=hid hni
 have HRI:=hid hrise
 obtain⟨vv',uv',e',-,hU⟩:=hx
 obtain rfl:uv'= .slice p2 n2 c2:=by cases e';rfl
 have HUU:=hid hU
 obtain⟨Q,HQ⟩:∃ Q:Ending→World→Prop,Hid (Q=fun e w'=>∃ v',e= .returned v'∧Below w.heap.size w w'∧zap w0.heap.size w.heap.size w' fun W=>zac ((m+(k::rest).length)+1) W v' goal):=⟨_,rfl⟩
 rw[←HQ.out]
 obtain⟨X,HX⟩:∃ X,Hid (X=w.heap.size):=⟨_,rfl⟩
 obtain⟨W1,HW1⟩:∃ W,Hid (W=((w.alloc (.cells #[.slice p1 n1 c1,.slice p2 n2 c2] 27)).alloc (.cells #[.int .i64 vn,.slice s1 k1 t1,.slice s2 k2 t2,.slice s3 k3 t3] 32)).alloc (.cells #[.slice none 0 0,.slice none 0 0] 27)):=⟨_,rfl⟩
 obtain⟨hx1,hv1,hr1,hz1,hb1⟩:=zjK w [.slice p1 n1 c1,.slice p2 n2 c2] [.int .i64 vn,.slice s1 k1 t1,.slice s2 k2 t2,.slice s3 k3 t3] [.slice none 0 0,.slice none 0 0] 27 32 27
 rw[←HW1.out,←HX.out] at hx1 hv1 hr1 hz1 hb1
 have hb1w:Below w.heap.size w W1:=by rw[←HX.out];exact hb1
 have hb01:Below w0.heap.size w0 W1:=hw.trans (hb1w.mono hw.size)
 have HBY:=hid (zlE hb01 HXM.out hrise)
 have HB1:=hid hb1w
 have HBK:=hid (And.intro hx1 (And.intro hv1 hr1))
 have HZ1:=hid hz1
 have x0:=hx1.cell 0 _ rfl
 have x1:=hx1.cell 1 _ rfl
 have xl:=hx1.lt
 have y0:=zaa hb01 _ _ hyc
 have yl:=World.block_lt_of_cell? W1 _ y0
 have hixy:∀ W,(Instr.indexAt 28 (.slice (some ⟨yb,yo,none⟩) yn yc) (.int .i64 0)).run Tryz.prog W= .ok (.pointer (some ⟨yb,yo,none⟩)) W:=by
  intro W
  have:=zag Tryz.underlying28 zhg (a:=some ⟨yb,yo,none⟩) rfl 0 (by rw[HYN.out];simp:0<yn) W (cap:=yc)
  simpa using this
 clear hw hy hrise hwt hvn hVW hVT hVS hyat hyc hni e' hU hx1 hv1 hr1 hz1 hb1 hb1w hb01
 go_enter Tryz.func28,Tryz.ntmps28
 go_upto_region 1 with fail
 rw[←HW1.out,←HX.out]
 go_upto_region 2 with fail
 clear y0 yl hixy
 go_wp2_with fail
 refine HBY.out.mono ?_
 rintro e w2 ⟨r,es,rfl,hmp,hva,hr2,hb2⟩
 have HMP:=hid (And.intro hmp hva)
 have HR2:Hid (W1.heap.size≤r∧r<w2.heap.size):=⟨hr2,(Array.getElem?_eq_some_iff.1 hmp).1⟩
 have HB2:=hid (HB1.out.trans (hb2.mono HB1.out.size))
 have HBK2:=hid (And.intro (HBK.out.1.below hb2) (And.intro (HBK.out.2.1.below hb2) (HBK.out.2.2.below hb2)))
 have hnd:(es.map Prod.fst).Nodup:=by rw[hva.keys];exact HRI.out.nodup
 have HND:=hid hnd
 have hlk:=zg4 hmp n true
 clear hmp hva hr2 hb2 hnd HBY HBK x0 x1 xl
 obtain⟨oc,HOC⟩:∃ c:VS,Hid ((zal n es).getD (.agg #[.int .i64 0,.slice none 0 0,.slice none 0 0,.slice none 0 0])=c.val∧∀ u,zal n es=some u→u=c.val):=by
  cases hg:zal n es with
  | none=>exact⟨⟨0,none,0,0,none,0,0,none,0,0⟩,rfl,fun u h=>by cases h⟩
  | some u =>
   obtain⟨g,-,-,hP⟩:=HMP.out.2.get hg
   obtain⟨-,c,rfl,-⟩:=zh9 hP
   exact⟨c,rfl,fun u h=>by injection h with h;exact h.symm⟩
 obtain⟨th,HTH⟩:∃ b,Hid (b=(zal n es).isSome):=⟨_,rfl⟩
 rw[HOC.out.1,←HTH.out] at hlk
 obtain⟨on,o1,q1,d1,o2,q2,d2,o3,q3,d3⟩:=oc
 simp only[VS.val,if_true] at hlk
 obtain⟨OB,HOB⟩:∃ b,Hid (b=w2.heap.size):=⟨_,rfl⟩
 obtain⟨W4,HW4⟩:∃ W,Hid (W=w2.alloc (.cells #[.int .i64 on,.slice o1 q1 d1,.slice o2 q2 d2,.slice o3 q3 d3] 32)):=⟨_,rfl⟩
 have hb4:Below w2.heap.size w2 W4:=by rw[HW4.out];exact (Below.refl _ _).alloc (Nat.le_refl _) _
 have ho4:Blk W4 OB [.int .i64 on,.slice o1 q1 d1,.slice o2 q2 d2,.slice o3 q3 d3] 32:=by rw[HW4.out,HOB.out];exact Blk.new w2 [.int .i64 on,.slice o1 q1 d1,.slice o2 q2 d2,.slice o3 q3 d3] _
 have HB4:=hid (HB2.out.trans (hb4.mono HB2.out.size))
 have HBK4:=hid (And.intro (HBK2.out.1.below hb4) (And.intro (HBK2.out.2.1.below hb4) (And.intro (HBK2.out.2.2.below hb4) ho4)))
 obtain⟨B,HBB⟩:∃ b,Hid (b=W4.heap.size):=⟨_,rfl⟩
 have HSZ:Hid (w0.heap.size≤X∧X+1+1<r∧r<OB∧OB<B∧w.heap.size=X):=by
  have h1:=HW0.out.size
  have h2:=HX.out
  have h3:=HZ1.out
  have h4:=HR2.out
  have h5:=HOB.out
  have h6:=ho4.lt
  have h7:=HBB.out
  show _∧_
  omega
 have HB04:=hid (HW0.out.trans (HB4.out.mono HW0.out.size))
 have HM4:Hid (zas W4 r zbK es∧zo2 (m+(k::rest).length) w0.heap.size B W4 es (M.vals x)):=⟨zaX HMP.out.1 hb4,zcv.imp HMP.out.2 fun v g h=>zbz rfl HB04.out fun W hk=>VMsg.keep h hk⟩
 have hvl:(M.vals x).length≤536870912:=Nat.le_trans (zdU x) HWT.out
 have HVL:=hid hvl
 have HKB:=hid HMP.out.2
 have HTV:=hid (fun W (hW:Below W4.heap.size W4 W)=>zfK (w:=W) (VMsg.keep HWV.out (zaa (HB04.out.trans (hW.mono HB04.out.size))):zat (zac m) W _ v))
 -- where the ways meet
 have HEND:Hid (∀ (wx:World) (es':List (Int × Value)) (gs l:List (Val (M (m+(k::rest).length)))),zgg (m+(k::rest).length) w0.heap.size B w wx X r [.slice p1 n1 c1,.slice p2 n2 c2] (M.unk x) goal es' gs l →
   Calls Tryz.prog 65 #[.map (some r),.slice p2 n2 c2] wx fun e w'=>∃ v',e= .returned v'∧Below wx.heap.size wx w'∧zap w0.heap.size B w' fun W=>zac ((m+(k::rest).length)+1) W v' goal):=by
  intro wx es' gs l h
  have hle:=zgu h.rise h.get h.nd
  rw[h.goal']
  exact zkS h.map h.vals h.big h.nd (by have:=h.len;omega) (zbz rfl (HW0.out.trans ((h.below.mono (Nat.le_of_eq HX.out.symm)).mono HW0.out.size)) fun W hk=>HUU.out.keep hk) h.rise h.get
 have HV0:Hid (M.vals x=M.vals x):=rfl
 have o3':=ho4.cell 3 _ rfl
 have ol:=ho4.lt
 have v0:=HBK4.out.2.1.cell 0 _ rfl
 have v1:=HBK4.out.2.1.cell 1 _ rfl
 have v2:=HBK4.out.2.1.cell 2 _ rfl
 have v3:=HBK4.out.2.1.cell 3 _ rfl
 have vl:=HBK4.out.2.1.lt
 clear hb4 ho4 hvl HMP HB1 HB2 HBK2 HR2 HZ1 HW1
 go_upto_block 0 with fail
 rw[←HW4.out,←HOB.out]
 clear hlk
 obtain⟨mv,HMV⟩:∃ q,Hid (q=zcD v):=⟨_,rfl⟩
 rw[←HMV.out] at HTV
 have hyn:yn=(k::rest).length+1:=HYN.out
 have hy1:((yn:Int) == 1)=false:=by rw[hyn,List.length_cons];simp;omega
 obtain⟨ta,tc,hsl,hIT⟩:=zin HIY.out hyn
 obtain⟨tn,HTN⟩:∃ q,Hid (q=(k::rest).length):=⟨_,rfl⟩
 rw[←HTN.out] at hsl hIT
 have HIT:=hid hIT
 have HVM:=hid (And.intro v0 (And.intro v1 (And.intro v2 v3)))
 clear hyn hIT
 go_cut [] from 22 to 70 (fun wx=>∃ (es':List (Int × Value)) (gs l:List (Val (M (m+(k::rest).length)))),Hid (zgg (m+(k::rest).length) w0.heap.size B w wx X r [.slice p1 n1 c1,.slice p2 n2 c2] (M.unk x) goal es' gs l))
 case first =>
  cases th with
  | true =>
   obtain⟨u,hu⟩:∃ u,zal n es=some u:=by
    have:=HTH.out
    cases hg:zal n es with
    | none=>rw[hg] at this;cases this
    | some u=>exact⟨u,rfl⟩
   have huc:=HOC.out.2 u hu
   obtain⟨g,hgv,-,hP⟩:=HKB.out.get hu
   rw[huc] at hP
   obtain⟨y,hys,hok⟩:=HSUB.out g hgv
   obtain⟨S1,S2,S3,hve,-,-,-,hSS⟩:=hP
   obtain rfl:S3= .slice o3 q3 d3:=by simp only[VS.val] at hve;cases hve;rfl
   rw[hys] at hSS
   obtain⟨-,ga,gc,hge,-,hgat⟩:=hSS.open
   obtain⟨gb,go,u1,u2,hga,gg0,gg1,hMy⟩:=hgat 0 y rfl
   obtain⟨rfl,rfl,rfl⟩:o3=ga∧q3=1∧d3=gc:=by injection hge with h1 h2 h3;exact⟨h1,h2,h3⟩
   subst hga
   rw[Nat.zero_mul,Nat.add_zero] at gg0 gg1
   obtain⟨z1,z1n,z1c,z2,z2n,z2c,hse⟩:=hMy.form
   obtain⟨rfl,rfl⟩:u1= .slice z1 z1n z1c∧u2= .slice z2 z2n z2c:=by cases hse;exact⟨rfl,rfl⟩
   have hk04:=zaa HB04.out
   have g0:=hk04 _ _ gg0
   have g1:=hk04 _ _ gg1
   have HGL:Hid (gb<W4.heap.size):=World.block_lt_of_cell? W4 _ g0
   have hwy:mwt (m+(k::rest).length) y≤536870912:=by
    have h1:=zau (vwt (mwt (m+(k::rest).length))) (M.vals x) g (zbO hgv).2
    have h2:1+twt (M.unk x)+((M.vals x).map (vwt (mwt (m+(k::rest).length)))).sum≤536870912:=HWT.out
    have h3:mwt (m+(k::rest).length) y≤vwt (mwt (m+(k::rest).length)) g:=by unfold vwt;rw[hys,List.map_cons,List.map_nil,List.sum_cons,List.sum_nil];omega
    omega
   have HB4C:Hid (Below W4.heap.size W4 W4.drew):=(Below.refl _ _).drew
   have HREC:=hid (HRC.out w0 W4.drew _ _ _ y v HB04.out.drew hMy HIT.out HWV.out hok hwy)
   have HGOAL:Hid (goal=(⟨zdk ⟨n,[],[],[zdj (k::rest) y v]⟩ (M.vals x),M.unk x⟩:zec (M (m+(k::rest).length)))):=by
    exact HGO.out.trans (zhv hgv hys)
   have hixa:∀ W,(Instr.indexAt 30 (.slice (some ⟨gb,go,none⟩) 1 d3) (.int .i64 0)).run Tryz.prog W= .ok (.pointer (some ⟨gb,go,none⟩)) W:=by
    intro W
    have:=zad Tryz.underlying30 zbX (a:=some ⟨gb,go,none⟩) rfl 0 (by decide:0<1) W (cap:=d3)
    simpa using this
   have HVP:Hid (W4.drew.cell? ⟨OB,3,none⟩=some (.slice (some ⟨gb,go,none⟩) 1 d3)∧W4.drew.cell? ⟨gb,go,none⟩=some (.slice z1 z1n z1c)∧W4.drew.cell? ⟨gb,go+1,none⟩=some (.slice z2 z2n z2c)∧W4.drew.cell? ⟨X+1,0,none⟩=some (.int .i64 vn)∧W4.drew.cell? ⟨X+1,1,none⟩=some (.slice s1 k1 t1)∧W4.drew.cell? ⟨X+1,2,none⟩=some (.slice s2 k2 t2)∧W4.drew.cell? ⟨X+1,3,none⟩=some (.slice s3 k3 t3)):=⟨o3',g0,g1,v0,v1,v2,v3⟩
   clear hu huc hgv hys hok hve hSS hge hgat gg0 gg1 hMy hse hk04 hwy
   have gl:=HGL.out
   go_upto_region 10 with fail
   refine zaS (fun w'=>w'.cell? ⟨OB,3,none⟩=some (.slice (some ⟨gb,go,none⟩) 1 d3)∧w'.cell? ⟨gb,go,none⟩=some (.slice z1 z1n z1c)∧w'.cell? ⟨gb,go+1,none⟩=some (.slice z2 z2n z2c)∧w'.cell? ⟨X+1,0,none⟩=some (.int .i64 vn)∧w'.cell? ⟨X+1,1,none⟩=some (.slice s1 k1 t1)∧w'.cell? ⟨X+1,2,none⟩=some (.slice s2 k2 t2)∧w'.cell? ⟨X+1,3,none⟩=some (.slice s3 k3 t3)) (fun _=>True) 10 [(0,0),(1,0),(2,0),(3,0),(4,0),(5,0),(6,0),(7,0),(8,0),(9,0),(10,2),(11,2),(12,0),(13,2)] (by kernel_rfl) rfl rfl (by kernel_rfl) (fun _ _ dst _ _ h=>by cases dst <;> exact h) HVP.out trivial (fun OPS _=>?_)
   simp only[List.map_cons,List.map_nil,List.filterMap_cons,List.filterMap_nil,List.getElem?_cons_succ,List.getElem?_cons_zero]
   refine zav (v:=?v1000) ?hy1000 ?hr1000
   case hy1000=>(intro w hw;go_simp;all_goals rfl)
   simp only[Act.put,pzC,pzD,pzE]
   refine zav (v:=?v1001) ?hy1001 ?hr1001
   case hy1001=>(intro w hw;go_simp;all_goals rfl)
   simp only[Act.put,pzC,pzD,pzE]
   refine zav (v:=?v1002) ?hy1002 ?hr1002
   case hy1002=>(intro w hw;go_simp;all_goals rfl)
   simp only[Act.put,pzC,pzD,pzE]
   refine zav (v:=?v1003) ?hy1003 ?hr1003
   case hy1003=>(intro w hw;go_simp;all_goals rfl)
   simp only[Act.put,pzC,pzD,pzE]
   refine zav (v:=?v1004) ?hy1004 ?hr1004
   case hy1004=>(intro w hw;go_simp;all_goals rfl)
   simp only[Act.put,pzC,pzD,pzE]
   refine zav (v:=?v1005) ?hy1005 ?hr1005
   case hy1005=>(intro w hw;go_simp;all_goals rfl)
   simp only[Act.put,pzC,pzD,pzE]
   refine zav (v:=?v1006) ?hy1006 ?hr1006
   case hy1006=>(intro w hw;go_simp;all_goals rfl)
   simp only[Act.put,pzC,pzD,pzE]
   refine zav (v:=?v1007) ?hy1007 ?hr1007
   case hy1007=>(intro w hw;go_simp;all_goals rfl)
   simp only[Act.put,pzC,pzD,pzE]
   refine zav (v:=?v1008) ?hy1008 ?hr1008
   case hy1008=>(intro w hw;go_simp;all_goals rfl)
   simp only[Act.put,pzC,pzD,pzE]
   refine zav (v:=?v1009) ?hy1009 ?hr1009
   case hy1009=>(intro w hw;go_simp;all_goals rfl)
   simp only[Act.put,pzC,pzD,pzE]
   refine zcY (fun K12 HK12=>?_)
   go_wp2_with fail
   refine HREC.out.mono ?_
   rintro e w8 ⟨v8,rfl,hb8,hap⟩
   obtain⟨a1,a2,a3,a4,a5,a6,rfl⟩:=hap.here.form
   have HV8:Hid ((fun w'=>w'.cell? ⟨OB,3,none⟩=some (.slice (some ⟨gb,go,none⟩) 1 d3)∧w'.cell? ⟨gb,go,none⟩=some (.slice z1 z1n z1c)∧w'.cell? ⟨gb,go+1,none⟩=some (.slice z2 z2n z2c)∧w'.cell? ⟨X+1,0,none⟩=some (.int .i64 vn)∧w'.cell? ⟨X+1,1,none⟩=some (.slice s1 k1 t1)∧w'.cell? ⟨X+1,2,none⟩=some (.slice s2 k2 t2)∧w'.cell? ⟨X+1,3,none⟩=some (.slice s3 k3 t3)) w8):=⟨zaa hb8 _ _ HVP.out.1,zaa hb8 _ _ HVP.out.2.1,zaa hb8 _ _ HVP.out.2.2.1,zaa hb8 _ _ HVP.out.2.2.2.1,zaa hb8 _ _ HVP.out.2.2.2.2.1,zaa hb8 _ _ HVP.out.2.2.2.2.2.1,zaa hb8 _ _ HVP.out.2.2.2.2.2.2⟩
   go_wp2_with fail
   refine HK12.out _ _ HV8.out ?_
   clear HK12 K12
   intro _
   obtain⟨W9,HW9⟩:∃ W,Hid (W=w8.alloc (.cells #[.slice a1 a2 a3,.slice a4 a5 a6] 27)):=⟨_,rfl⟩
   obtain⟨G,HG⟩:∃ b,Hid (b=w8.heap.size):=⟨_,rfl⟩
   have hb9:Below w8.heap.size w8 W9:=by rw[HW9.out];exact (Below.refl _ _).alloc (Nat.le_refl _) _
   have hg9:Blk W9 G [.slice a1 a2 a3,.slice a4 a5 a6] 27:=by rw[HW9.out,HG.out];exact Blk.new w8 [.slice a1 a2 a3,.slice a4 a5 a6] _
   have hb49:Below W4.heap.size W4 W9:=HB4C.out.trans ((hb8.trans (hb9.mono hb8.size)).mono HB4C.out.size)
   have hm9:=zaX HM4.out.1 hb49
   have hmu:=zia hm9 n (.agg #[.int .i64 n,.slice none 0 0,.slice none 0 0,.slice (some ⟨G,0,none⟩) 1 1])
   have HST:Hid (zgg (m+(k::rest).length) w0.heap.size B w (za9 W9 r zbK (zf2 n (.agg #[.int .i64 n,.slice none 0 0,.slice none 0 0,.slice (some ⟨G,0,none⟩) 1 1]) es)) X r [.slice p1 n1 c1,.slice p2 n2 c2] (M.unk x) goal (zf2 n (.agg #[.int .i64 n,.slice none 0 0,.slice none 0 0,.slice (some ⟨G,0,none⟩) 1 1]) es) (zoH ⟨n,[],[],[zdj (k::rest) y v]⟩ (M.vals x)) (zdk ⟨n,[],[],[zdj (k::rest) y v]⟩ (M.vals x))):=by
    have hsz:=HSZ.out
    have hri:=HRI.out
    have hrl:=(Array.getElem?_eq_some_iff.1 hm9).1
    have hB9:B≤W9.heap.size:=by rw[HBB.out];exact hb49.size
    have hB8:B≤w8.heap.size:=by rw[HBB.out];exact Nat.le_trans HB4C.out.size hb8.size
    have hbx9:Below X w W9:=by rw[HX.out];exact HB4.out.trans (hb49.mono HB4.out.size)
    have hnum:zap w0.heap.size B W9 fun W=>zat (zac (m+(k::rest).length)) W (.agg #[.int .i64 n,.slice none 0 0,.slice none 0 0,.slice (some ⟨G,0,none⟩) 1 1]) (⟨n,[],[],[zdj (k::rest) y v]⟩:Val (M (m+(k::rest).length))):=fun W hW=>by
     refine zfD (by have:=HNI.out;unfold zcb at this;exact this) (T:=27) (c1:=.slice a1 a2 a3) (c2:=.slice a4 a5 a6) ((hW G hg9.lt (.inr (by rw[HG.out];exact hB8))).trans hg9) ?_
     refine hap W fun b hlt hc=>?_
     rw[hW b (Nat.lt_of_lt_of_le hlt hb9.size) (hc.imp id fun h=>by have:=HBB.out;have:=HB4C.out.size;omega)]
     exact hb9.block b hlt
    have hput:=zcv.put (zcv.imp HM4.out.2 fun v g h=>h.later hb49) HND.out hnum
    have hpl:=zi4 (⟨n,[],[],[zdj (k::rest) y v]⟩:Val (M (m+(k::rest).length))) (M.vals x)
    refine⟨(zb8 hrl).g,zcv.imp hput fun v g h=>zfc h (by omega) (by omega),?_,zcV hri,fun q=>?_,?_,?_,zaO.blk (HBK4.out.1.below hb49) (by omega),zaO.blk (HBK4.out.2.2.1.below hb49) (by omega),hbx9.trans (zaO.to_below (by omega) (by have:=hbx9.size;omega)),?_⟩
    ·
     rw[←hput.keys];exact zdM HND.out
    ·
     rw[zeB hri,zgq]
    ·
     have:=HVL.out
     omega
    ·
     exact HGOAL.out
    ·
     rw[za6];exact hB9
   refine zcY (fun K12 HK12=>?_)
   go_wp2_with fail
   rw[←HW9.out,←HG.out]
   have HV9:Hid ((fun w'=>w'.cell? ⟨OB,3,none⟩=some (.slice (some ⟨gb,go,none⟩) 1 d3)∧w'.cell? ⟨gb,go,none⟩=some (.slice z1 z1n z1c)∧w'.cell? ⟨gb,go+1,none⟩=some (.slice z2 z2n z2c)∧w'.cell? ⟨X+1,0,none⟩=some (.int .i64 vn)∧w'.cell? ⟨X+1,1,none⟩=some (.slice s1 k1 t1)∧w'.cell? ⟨X+1,2,none⟩=some (.slice s2 k2 t2)∧w'.cell? ⟨X+1,3,none⟩=some (.slice s3 k3 t3)) W9):=⟨zaa hb9 _ _ HV8.out.1,zaa hb9 _ _ HV8.out.2.1,zaa hb9 _ _ HV8.out.2.2.1,zaa hb9 _ _ HV8.out.2.2.2.1,zaa hb9 _ _ HV8.out.2.2.2.2.1,zaa hb9 _ _ HV8.out.2.2.2.2.2.1,zaa hb9 _ _ HV8.out.2.2.2.2.2.2⟩
   have HVU:Hid ((fun w'=>w'.cell? ⟨OB,3,none⟩=some (.slice (some ⟨gb,go,none⟩) 1 d3)∧w'.cell? ⟨gb,go,none⟩=some (.slice z1 z1n z1c)∧w'.cell? ⟨gb,go+1,none⟩=some (.slice z2 z2n z2c)∧w'.cell? ⟨X+1,0,none⟩=some (.int .i64 vn)∧w'.cell? ⟨X+1,1,none⟩=some (.slice s1 k1 t1)∧w'.cell? ⟨X+1,2,none⟩=some (.slice s2 k2 t2)∧w'.cell? ⟨X+1,3,none⟩=some (.slice s3 k3 t3)) (za9 W9 r zbK (zf2 n (.agg #[.int .i64 n,.slice none 0 0,.slice none 0 0,.slice (some ⟨G,0,none⟩) 1 1]) es))):=⟨zaW hm9 _ _ HV9.out.1,zaW hm9 _ _ HV9.out.2.1,zaW hm9 _ _ HV9.out.2.2.1,zaW hm9 _ _ HV9.out.2.2.2.1,zaW hm9 _ _ HV9.out.2.2.2.2.1,zaW hm9 _ _ HV9.out.2.2.2.2.2.1,zaW hm9 _ _ HV9.out.2.2.2.2.2.2⟩
   refine HK12.out _ _ HV9.out ?_
   clear HK12 K12 hap hb8 hb9 hg9 hb49 hm9
   intro _
   refine zav (v:=?v1050) ?hy1050 ?hr1050
   case hy1050=>(intro w hw;go_simp;all_goals rfl)
   simp only[Act.put,pzC,pzD,pzE]
   refine zcY (fun K12 HK12=>?_)
   go_wp2_with fail
   refine HK12.out _ _ HVU.out ?_
   clear HK12 K12
   intro _
   refine zcE ?_
   go_wp2_with fail
   go_meet
   case rel=>exact⟨_,_,_,HST.out⟩
  | false =>
   have hgn:zbu (M.vals x) n=none:=HKB.out.none (by
    have:=HTH.out
    cases hg:zal n es with
    | none=>rfl
    | some u=>rw[hg] at this;cases this)
   by_cases h0:mv=0
   ·
    have HST:Hid (zgg (m+(k::rest).length) w0.heap.size B w W4 X r [.slice p1 n1 c1,.slice p2 n2 c2] (M.unk x) goal es (M.vals x) (M.vals x)):=by
     refine⟨HM4.out.1.g,HM4.out.2,HRI.out.nodup,HRI.out,fun _=>rfl,Nat.le_trans HVL.out (by decide),?_,HBK4.out.1,HBK4.out.2.2.1,by rw[HX.out];exact HB4.out,by rw[HBB.out];exact Nat.le_refl _⟩
     exact HGO.out.trans (zhu hgn (HMV.out.symm.trans h0))
    have HTV0:=hid (HTV.out W4 (Below.refl _ _))
    rw[h0] at HTV0
    rw[show ((0:Nat):Int)=0 from rfl] at HTV0
    clear hgn h0
    go_wp2_with (go_at_call 25;refine HTV0.out.mono ?_;rintro e w5 ⟨rfl,hb5⟩;have HST:=hid (HST.out.later (by have:=HSZ.out;have:=HBB.out;omega) hb5);clear hb5)
    go_meet
    case rel=>exact⟨_,_,_,HST.out⟩
   ·
    have HGOAL:Hid (goal=(⟨zdk ⟨n,[],[],[zdj (k::rest) (zi9 (m+rest.length)) v]⟩ (M.vals x),M.unk x⟩:zec (M (m+(k::rest).length)))):=HGO.out.trans (zi3 hgn (by rw[←HMV.out];exact h0))
    have hgt:0<mv:=Nat.pos_of_ne_zero h0
    go_upto_if 57 with (go_at_call 25;refine (HTV.out W4 (Below.refl _ _)).mono ?_;rintro e w5 ⟨rfl,hb5⟩)
    have HB4C:Hid (Below W4.heap.size W4 w5.drew):=hb5.drew
    have HVP:Hid (w5.drew.cell? ⟨X+1,0,none⟩=some (.int .i64 vn)∧w5.drew.cell? ⟨X+1,1,none⟩=some (.slice s1 k1 t1)∧w5.drew.cell? ⟨X+1,2,none⟩=some (.slice s2 k2 t2)∧w5.drew.cell? ⟨X+1,3,none⟩=some (.slice s3 k3 t3)):=⟨zaa HB4C.out _ _ HVM.out.1,zaa HB4C.out _ _ HVM.out.2.1,zaa HB4C.out _ _ HVM.out.2.2.1,zaa HB4C.out _ _ HVM.out.2.2.2⟩
    have HREC:=hid (HRC.out w0 w5.drew (.agg #[.slice none 0 0,.slice none 0 0]) _ _ (zi9 (m+rest.length)) v (HB04.out.trans (HB4C.out.mono HB04.out.size)) ⟨_,_,rfl,zds _ _ _,zfa _⟩ HIT.out HWV.out (zht k rest) (by show 1+0+0≤536870912;omega))
    clear hgn h0 hb5
    go_upto_region 12 with fail
    refine zaS (fun w'=>w'.cell? ⟨X+1,0,none⟩=some (.int .i64 vn)∧w'.cell? ⟨X+1,1,none⟩=some (.slice s1 k1 t1)∧w'.cell? ⟨X+1,2,none⟩=some (.slice s2 k2 t2)∧w'.cell? ⟨X+1,3,none⟩=some (.slice s3 k3 t3)) (fun _=>True) 7 [(0,0),(1,0),(2,0),(3,0),(4,0),(5,0),(6,0),(7,2),(8,2),(9,0),(10,2)] (by kernel_rfl) rfl rfl (by kernel_rfl) (fun _ _ dst _ _ h=>by cases dst <;> exact h) HVP.out trivial (fun OPS _=>?_)
    simp only[List.map_cons,List.map_nil,List.filterMap_cons,List.filterMap_nil,List.getElem?_cons_succ,List.getElem?_cons_zero]
    refine zav (v:=?v1200) ?hy1200 ?hr1200
    case hy1200=>(intro w hw;go_simp;all_goals rfl)
    simp only[Act.put,pzC,pzD,pzE]
    refine zav (v:=?v1201) ?hy1201 ?hr1201
    case hy1201=>(intro w hw;go_simp;all_goals rfl)
    simp only[Act.put,pzC,pzD,pzE]
    refine zav (v:=?v1202) ?hy1202 ?hr1202
    case hy1202=>(intro w hw;go_simp;all_goals rfl)
    simp only[Act.put,pzC,pzD,pzE]
    refine zav (v:=?v1203) ?hy1203 ?hr1203
    case hy1203=>(intro w hw;go_simp;all_goals rfl)
    simp only[Act.put,pzC,pzD,pzE]
    refine zav (v:=?v1204) ?hy1204 ?hr1204
    case hy1204=>(intro w hw;go_simp;all_goals rfl)
    simp only[Act.put,pzC,pzD,pzE]
    refine zav (v:=?v1205) ?hy1205 ?hr1205
    case hy1205=>(intro w hw;go_simp;all_goals rfl)
    simp only[Act.put,pzC,pzD,pzE]
    refine zav (v:=?v1206) ?hy1206 ?hr1206
    case hy1206=>(intro w hw;go_simp;all_goals rfl)
    simp only[Act.put,pzC,pzD,pzE]
    refine zcY (fun K12 HK12=>?_)
    go_wp2_with fail
    refine HREC.out.mono ?_
    rintro e w8 ⟨v8,rfl,hb8,hap⟩
    obtain⟨a1,a2,a3,a4,a5,a6,rfl⟩:=hap.here.form
    have HV8:Hid ((fun w'=>w'.cell? ⟨X+1,0,none⟩=some (.int .i64 vn)∧w'.cell? ⟨X+1,1,none⟩=some (.slice s1 k1 t1)∧w'.cell? ⟨X+1,2,none⟩=some (.slice s2 k2 t2)∧w'.cell? ⟨X+1,3,none⟩=some (.slice s3 k3 t3)) w8):=⟨zaa hb8 _ _ HVP.out.1,zaa hb8 _ _ HVP.out.2.1,zaa hb8 _ _ HVP.out.2.2.1,zaa hb8 _ _ HVP.out.2.2.2⟩
    go_wp2_with fail
    refine HK12.out _ _ HV8.out ?_
    clear HK12 K12
    intro _
    obtain⟨W9,HW9⟩:∃ W,Hid (W=w8.alloc (.cells #[.slice a1 a2 a3,.slice a4 a5 a6] 27)):=⟨_,rfl⟩
    obtain⟨G,HG⟩:∃ b,Hid (b=w8.heap.size):=⟨_,rfl⟩
    have hb9:Below w8.heap.size w8 W9:=by rw[HW9.out];exact (Below.refl _ _).alloc (Nat.le_refl _) _
    have hg9:Blk W9 G [.slice a1 a2 a3,.slice a4 a5 a6] 27:=by rw[HW9.out,HG.out];exact Blk.new w8 [.slice a1 a2 a3,.slice a4 a5 a6] _
    have hb49:Below W4.heap.size W4 W9:=HB4C.out.trans ((hb8.trans (hb9.mono hb8.size)).mono HB4C.out.size)
    have hm9:=zaX HM4.out.1 hb49
    have hmu:=zia hm9 n (.agg #[.int .i64 n,.slice none 0 0,.slice none 0 0,.slice (some ⟨G,0,none⟩) 1 1])
    have HST:Hid (zgg (m+(k::rest).length) w0.heap.size B w (za9 W9 r zbK (zf2 n (.agg #[.int .i64 n,.slice none 0 0,.slice none 0 0,.slice (some ⟨G,0,none⟩) 1 1]) es)) X r [.slice p1 n1 c1,.slice p2 n2 c2] (M.unk x) goal (zf2 n (.agg #[.int .i64 n,.slice none 0 0,.slice none 0 0,.slice (some ⟨G,0,none⟩) 1 1]) es) (zoH ⟨n,[],[],[zdj (k::rest) (zi9 (m+rest.length)) v]⟩ (M.vals x)) (zdk ⟨n,[],[],[zdj (k::rest) (zi9 (m+rest.length)) v]⟩ (M.vals x))):=by
     have hsz:=HSZ.out
     have hri:=HRI.out
     have hrl:=(Array.getElem?_eq_some_iff.1 hm9).1
     have hB9:B≤W9.heap.size:=by rw[HBB.out];exact hb49.size
     have hB8:B≤w8.heap.size:=by rw[HBB.out];exact Nat.le_trans HB4C.out.size hb8.size
     have hbx9:Below X w W9:=by rw[HX.out];exact HB4.out.trans (hb49.mono HB4.out.size)
     have hnum:zap w0.heap.size B W9 fun W=>zat (zac (m+(k::rest).length)) W (.agg #[.int .i64 n,.slice none 0 0,.slice none 0 0,.slice (some ⟨G,0,none⟩) 1 1]) (⟨n,[],[],[zdj (k::rest) (zi9 (m+rest.length)) v]⟩:Val (M (m+(k::rest).length))):=fun W hW=>by
      refine zfD (by have:=HNI.out;unfold zcb at this;exact this) (T:=27) (c1:=.slice a1 a2 a3) (c2:=.slice a4 a5 a6) ((hW G hg9.lt (.inr (by rw[HG.out];exact hB8))).trans hg9) ?_
      refine hap W fun b hlt hc=>?_
      rw[hW b (Nat.lt_of_lt_of_le hlt hb9.size) (hc.imp id fun h=>by have:=HBB.out;have:=HB4C.out.size;omega)]
      exact hb9.block b hlt
     have hput:=zcv.put (zcv.imp HM4.out.2 fun v g h=>h.later hb49) HND.out hnum
     have hpl:=zi4 (⟨n,[],[],[zdj (k::rest) (zi9 (m+rest.length)) v]⟩:Val (M (m+(k::rest).length))) (M.vals x)
     refine⟨(zb8 hrl).g,zcv.imp hput fun v g h=>zfc h (by omega) (by omega),?_,zcV hri,fun q=>?_,?_,?_,zaO.blk (HBK4.out.1.below hb49) (by omega),zaO.blk (HBK4.out.2.2.1.below hb49) (by omega),hbx9.trans (zaO.to_below (by omega) (by have:=hbx9.size;omega)),?_⟩
     ·
      rw[←hput.keys];exact zdM HND.out
     ·
      rw[zeB hri,zgq]
     ·
      have:=HVL.out
      omega
     ·
      exact HGOAL.out
     ·
      rw[za6];exact hB9
    refine zcY (fun K12 HK12=>?_)
    go_wp2_with fail
    rw[←HW9.out,←HG.out]
    have HV9:Hid ((fun w'=>w'.cell? ⟨X+1,0,none⟩=some (.int .i64 vn)∧w'.cell? ⟨X+1,1,none⟩=some (.slice s1 k1 t1)∧w'.cell? ⟨X+1,2,none⟩=some (.slice s2 k2 t2)∧w'.cell? ⟨X+1,3,none⟩=some (.slice s3 k3 t3)) W9):=⟨zaa hb9 _ _ HV8.out.1,zaa hb9 _ _ HV8.out.2.1,zaa hb9 _ _ HV8.out.2.2.1,zaa hb9 _ _ HV8.out.2.2.2⟩
    have HVU:Hid ((fun w'=>w'.cell? ⟨X+1,0,none⟩=some (.int .i64 vn)∧w'.cell? ⟨X+1,1,none⟩=some (.slice s1 k1 t1)∧w'.cell? ⟨X+1,2,none⟩=some (.slice s2 k2 t2)∧w'.cell? ⟨X+1,3,none⟩=some (.slice s3 k3 t3)) (za9 W9 r zbK (zf2 n (.agg #[.int .i64 n,.slice none 0 0,.slice none 0 0,.slice (some ⟨G,0,none⟩) 1 1]) es))):=⟨zaW hm9 _ _ HV9.out.1,zaW hm9 _ _ HV9.out.2.1,zaW hm9 _ _ HV9.out.2.2.1,zaW hm9 _ _ HV9.out.2.2.2⟩
    refine HK12.out _ _ HV9.out ?_
    clear HK12 K12 hap hb8 hb9 hg9 hb49 hm9
    intro _
    refine zav (v:=?v1250) ?hy1250 ?hr1250
    case hy1250=>(intro w hw;go_simp;all_goals rfl)
    simp only[Act.put,pzC,pzD,pzE]
    refine zcY (fun K12 HK12=>?_)
    go_wp2_with fail
    refine HK12.out _ _ HVU.out ?_
    clear HK12 K12
    intro _
    refine zcE ?_
    go_wp2_with fail
    go_meet
    case rel=>exact⟨_,_,_,HST.out⟩
 case rest =>
  obtain⟨es',gs,l,HS⟩:=hcut
  have x1:=HS.out.bx.cell 1 _ rfl
  have xl:=HS.out.bx.lt
  have HOF:=hid (HEND.out wc es' gs l HS.out)
  go_wp2_with fail
  refine HOF.out.mono ?_
  rintro e w7 ⟨v7,rfl,hb7,hap7⟩
  obtain⟨a1,a2,a3,a4,a5,a6,rfl⟩:=hap7.here.form
  have hr7:=HS.out.br.below hb7
  have hw7:=HS.out.below.trans (hb7.mono (Nat.le_of_lt HS.out.bx.lt))
  have r0:=hr7.cell 0 _ rfl
  have r1:=hr7.cell 1 _ rfl
  have f0:=hr7.free 0
  have f1:=hr7.free 1
  have rl:=hr7.lt
  have z1:=hr7.set 0 (.slice a1 a2 a3)
  have z2:=z1.set 1 (.slice a4 a5 a6)
  have q0:=z2.cell 0 _ rfl
  have q1':=z2.cell 1 _ rfl
  have HE:Hid (Q (.returned (.agg #[.slice a1 a2 a3,.slice a4 a5 a6])) ((w7.setCell ⟨X+1+1,0,none⟩ (.slice a1 a2 a3)).setCell ⟨X+1+1,1,none⟩ (.slice a4 a5 a6))):=by
   have hsz:=HSZ.out
   rw[HQ.out]
   refine⟨_,rfl,?_,fun W hW=>hap7 W fun b hb hc=>?_⟩
   ·
    rw[hsz.2.2.2.2]
    exact (hw7.setCell (by show X≤X+1+1;omega) _).setCell (by show X≤X+1+1;omega) _
   ·
    have hne:b≠X+1+1:=by omega
    rw[hW b (by simpa using hb) (by omega),Below.heap_setCell _ _ _ b hne,Below.heap_setCell _ _ _ b hne]
  clear hr7 z1 z2 hap7 hb7 hw7 HS HOF
  go_wp2_with fail
  refine bodyPost_ret (v:=.agg #[.slice a1 a2 a3,.slice a4 a5 a6]) ?_ rfl HE.out
  simp[results,Tryz.results28,go_sem,q0,q1']
theorem zos {m:Nat}:∀ (way:List Int),way≠[]→zpI m way
 | [],h=>absurd rfl h
 | [n],_=>fun w0 w xv yv vv x v hw hx hy hv hok hwt=>zk9 w0 w xv vv yv n x v hw hx hy hv hok hwt _ rfl
 | n::k::r,_=>fun w0 w xv yv vv x v hw hx hy hv hok hwt=>zki w0 w xv vv yv n k r x v (zos (k::r) (by simp)) hw hx hy hv hok.1 hok.2 hwt _ rfl
end
end Go.Proofs.YtdpnmdkbdibkpaaGreatDoor
