/- Parts of a proof: texts of the author, merged. No condition of their own. -/
import Derived.Test.YtdpnmdkbdibkpaaGreatDoorShelf
import Derived.Test.YtdpnmdkbdibkpaaGreatDoorZ03
import Derived.Test.YtdpnmdkbdibkpaaGreatDoorZ07
import Derived.Test.YtdpnmdkbdibkpaaGreatDoorZ08
import Derived.Test.YtdpnmdkbdibkpaaGreatDoorZ09
import Derived.Test.YtdpnmdkbdibkpaaGreatDoorZ10
import Derived.Test.YtdpnmdkbdibkpaaGreatDoorZ12
import Derived.Shelf.SlIterI.Nil
import Derived.Shelf.SortM.Plain
import Derived.Shelf.SortM.SortNone
namespace Go.Proofs.YtdpnmdkbdibkpaaGreatDoor
set_option maxRecDepth 100000
set_option maxHeartbeats 16000000
section
open Go.RowKit Go.Shelf
theorem zoW:(Tryz.prog.info? 9).map (fun i=>(i.zero,i.size,i.bytes))=some (some (.string ⟨#[]⟩),1,16):=by kernel_rfl
theorem zmd:Tryz.prog.underlying 25=some (.slice 9):=Tryz.underlying25
theorem zkE {w:World}{base g:Nat}{v:Value}{l:List (List UInt8)}(h:zaV w v l)(hl:l.length≤1099511627776)(hg:g=w.heap.size)(hb:base≤w.heap.size) :
  ∃ a c w',(Builtin.append_ #[25,25] 25 #[.slice (some ⟨g,0,none⟩) 0 0,v]).run Tryz.prog (w.alloc (.cells #[] 9))= .ok (.slice a l.length c) w' ∧
   Below w.heap.size w w'∧w.heap.size<w'.heap.size∧∀ w2,(∀ b,b<w'.heap.size→base≤b→w2.heap[b]?=w'.heap[b]?)→zaV w2 (.slice a l.length c) l:=by
 subst hg
 have h0:World.ownsRow (w.alloc (.cells #[] 9)) w.heap.size 9 1 (.slice (some ⟨w.heap.size,0,none⟩) 0 0) 0 []:=by
  refine⟨rfl,.inr ⟨w.heap.size,0,#[],rfl,Nat.le_refl _,heap_alloc_new w _,Nat.le_refl _,by unfold maxLen;omega,rfl,rfl⟩⟩
 have hseg:Seg (w.alloc (.cells #[] 9)) v 1 l.length (l.map zbA):=h.1.keep (zaa ((Below.refl _ _).alloc (Nat.le_refl _) _))
 obtain⟨v',w',hr,hO,hg,hat⟩:=zbb (P:=Tryz.prog) (w.alloc (.cells #[] 9)) w.heap.size 25 25 9 (.string ⟨#[]⟩) 1 16 zmd zoW rfl (by decide) _ v 0 l.length [] _ h0 hseg
  (by intro u hu;obtain⟨t,-,rfl⟩:=List.mem_map.1 hu;rfl) (by omega) (by omega) (by simp)
 rw[Nat.zero_add,List.nil_append] at hO
 have hv':∃ a c,v'= .slice a l.length c:=by
  rcases hO.2 with ⟨rfl,e⟩|⟨g,cap,cur,rfl,-⟩
  ·
   exact⟨none,0,by rw[e]⟩
  ·
   exact⟨_,_,rfl⟩
 obtain⟨a,c,rfl⟩:=hv'
 have hB1:Below w.heap.size w (w.alloc (.cells #[] 9)):=(Below.refl _ _).alloc (Nat.le_refl _) _
 refine⟨a,c,w',hr,hB1.grown hg hB1.size (fun q e=>by simp[Value.ownBlock] at e;omega),by have:=hg.size;simp at this;omega,fun w2 hw2=>⟨?_,h.2⟩⟩
 exact zbo (zbk hO fun b cur hb' he=>hw2 b (Array.getElem?_eq_some_iff.1 he).1 (Nat.le_trans hb hb')) (by omega)
theorem zat.form {d:Nat}{w:World}{v:Value}{x:Val (M d)}(h:zat (zac d) w v x):∃ m a1 n1 c1 a2 n2 c2 a3 n3 c3,v= .agg #[.int .i64 m,.slice a1 n1 c1,.slice a2 n2 c2,.slice a3 n3 c3]:=by
 obtain⟨wv,tv,sv,rfl,-,hW,hT,hS⟩:=h
 obtain⟨-,wa,wc,rfl,-,-⟩:=hW.open
 obtain⟨-,ta,tc,rfl,-,-⟩:=hT.open
 obtain⟨-,sa,sc,rfl,-,-⟩:=hS.open
 exact⟨_,_,_,_,_,_,_,_,_,_,rfl⟩
def OfVOk (w0:World)(d:Nat):Prop:=∀ (w:World) (v:Value) (x:Val (M d)),zat (zac d) w0 v x→Below w0.heap.size w0 w→vwt (mwt d) x≤1099511627776 →
 Calls Tryz.prog 8 #[v] w fun e w'=>∃ v',e= .returned v'∧Below w.heap.size w w'∧zap w0.heap.size w.heap.size w' fun w2=>zat (zac d) w2 v' x
theorem zgZ {d:Nat}(x:M (d+1))(h:mwt (d+1) x≤1099511627776):(M.unk x).length≤1099511627776∧(M.vals x).length≤1099511627776:=by
 have h1:∀ l:List (List UInt8),l.length≤twt l:=fun l=>by
  induction l with
  | nil=>simp
  | cons t l ih=>unfold twt at *;simp;omega
 have h2:∀ l:List (Val (M d)),l.length≤(l.map (vwt (mwt d))).sum:=fun l=>by
  induction l with
  | nil=>simp
  | cons t l ih =>
   have:1≤vwt (mwt d) t:=by unfold vwt;omega
   simp;omega
 have h3:1+twt (M.unk x)+((M.vals x).map (vwt (mwt d))).sum≤1099511627776:=h
 have:=h1 (M.unk x)
 have:=h2 (M.vals x)
 omega
theorem zkF {w0:World}{d:Nat}(ih:OfVOk w0 d):OfOk w0 (d+1):=by
 intro w v x h hb hw
 obtain⟨vv,uv,rfl,hV,hU⟩:=h
 have hul:=zgZ x hw
 have hlt0:=hb.size
 have hkr:=zaa hb
 obtain⟨hvl,va,vc,rfl,-,hva⟩:=hV.open
 obtain⟨hul2,ua,uc,huv,-,-⟩:=hU.open
 obtain⟨vn,HVN⟩:∃ n,Hid (n=(M.vals x).length):=⟨_,rfl⟩
 rw[←HVN.out] at hvl ⊢
 have h2:zaV ((w.alloc (.cells #[.slice va vn vc,uv] 27)).alloc (.cells #[.slice none 0 0,.slice none 0 0] 38)) uv (M.unk x):=
  (hU.keep hkr).keep (zaa (((Below.refl w.heap.size w).alloc (Nat.le_refl _) _).alloc (by simp) _))
 obtain⟨a3,c3,w3,hr3,hb3,hs3,hU3⟩:=zkE h2 hul.1 (g:=w.heap.size+1+1) (base:=w.heap.size+1+1) (by simp) (by simp)
 have hb3':=(((Below.refl w.heap.size w).alloc (Nat.le_refl _) (.cells #[.slice va vn vc,uv] 27)).alloc (by simp) (.cells #[.slice none 0 0,.slice none 0 0] 38)).trans (hb3.mono (by simp;omega))
 have hx3:Blk w3 w.heap.size [.slice va vn vc,uv] 27:=((hb3.block w.heap.size (by simp;omega)).trans ((Blk.new w _ _).alloc _))
 have hr3':Blk w3 (w.heap.size+1) [.slice none 0 0,.slice none 0 0] 38:=by
  refine (hb3.block (w.heap.size+1) (by simp)).trans ?_
  have:=Blk.new (w.alloc (.cells #[.slice va vn vc,uv] 27)) [.slice none 0 0,.slice none 0 0] 38
  rw[show (w.alloc (.cells #[.slice va vn vc,uv] 27)).heap.size=w.heap.size+1 by simp] at this
  exact this
 have hs3':w.heap.size+1+1<w3.heap.size:=by simpa using hs3
 subst huv
 have HR3:=hid hr3
 have HB3:=hid hb3'
 have HX3:=hid hx3
 have HZ3:=hid hr3'
 have HU3:=hid hU3
 have HW:=hid hw
 have HVA:=hid hva
 unfold OfVOk at ih
 have HIH:=hid ih
 have HB:=hid hb
 obtain⟨un,HUN⟩:∃ n,Hid (n=(M.unk x).length):=⟨_,rfl⟩
 rw[←HUN.out] at HR3 HX3 HU3 hul hul2 ⊢
 clear hva ih hV hU hw hb h2 hr3 hb3 hs3 hU3 hkr hr3' hx3 hb3'
 go_enter Tryz.func7,Tryz.ntmps7
 go_wp2_with (at_builtin;refine zaf rfl _ _ _ rfl _ _ rfl rfl HR3.out ?_)
 obtain⟨B,HBB⟩:∃ B,Hid (B=w.heap.size):=⟨_,rfl⟩
 obtain⟨O,HOO⟩:∃ O,Hid (O=w3.heap.size):=⟨_,rfl⟩
 have hx1:=HX3.out.alloc (.cells #[.slice none 0 0,.slice a3 un c3] 38)
 have hr1:=HZ3.out.alloc (.cells #[.slice none 0 0,.slice a3 un c3] 38)
 have ho1:=Blk.new w3 [.slice none 0 0,.slice a3 un c3] 38
 have hz1:(w3.alloc (.cells #[.slice none 0 0,.slice a3 un c3] 38)).heap.size=w3.heap.size+1:=by simp
 have hb1:=(Below.refl w3.heap.size w3).alloc (Nat.le_refl _) (.cells #[.slice none 0 0,.slice a3 un c3] 38)
 generalize hW1:w3.alloc (.cells #[.slice none 0 0,.slice a3 un c3] 38)=W1 at *
 clear hW1
 rw[←HBB.out] at hx1 hr1 hs3' HB3 HU3 ⊢
 rw[←HOO.out] at ho1 hz1 hb1 hs3' HU3 ⊢
 have HX1:=hid hx1
 have HR1:=hid hr1
 have HO1:=hid ho1
 have HZ1:=hid hz1
 have HB1:=hid hb1
 have HBO:=hid hs3'
 have HN0:Hid (w0.heap.size≤B):=by rw[HBB.out];exact HB.out.size
 have HBW:Hid (∀ wr,Below O w3 wr→Below B w wr):=fun wr h=>HB3.out.trans (h.mono (by have:=HBO.out;omega))
 have HFIN:Hid (∀ w2,(∀ b,b<O→B+1+1≤b→w2.heap[b]?=w3.heap[b]?)→∀ vo,zeG (zac d) w2 vo (M.vals x)→zac (d+1) w2 (.agg #[vo,.slice a3 un c3]) x):=
  fun w2 hk vo hvo=>⟨vo,_,rfl,hvo,HU3.out w2 hk⟩
 have HLN:Hid (vn≤1099511627776):=by rw[Hid,HVN.out];exact hul.2
 clear hx1 hr1 ho1 hz1 hb1 hs3' HX3 HZ3 HR3 HU3 hul hul2
 go_loopw [4] (fun v4 wr=>∃ (i:Nat) (oa:Option Addr) (oc:Nat),v4= .int .i64 i∧i≤vn∧Hid (Below O w3 wr∧O<wr.heap.size∧Blk wr B [.slice va vn vc,.slice ua un uc] 27∧Blk wr (B+1) [.slice none 0 0,.slice none 0 0] 38∧Blk wr O [.slice oa i oc,.slice a3 un c3] 38∧zam (zeE d) 42 4 w0.heap.size (O+1) wr (.slice oa i oc) ((M.vals x).take i))) (fun v4 _=>vn - (intOf v4).toNat)
 case atStart =>
  exact⟨0,none,0,rfl,by omega,HB1.out,by rw[HZ1.out];omega,HX1.out,HR1.out,HO1.out,zam.nil _ _ _ _ _ _⟩
 case round =>
  obtain⟨i,oa,oc,rfl,hi,HI⟩:=hrel
  have c1:=HI.out.2.2.1.cell 0 _ rfl
  have hbl1:B<wr.heap.size:=HI.out.2.2.1.lt
  by_cases hlt:i<vn
  ·
   have hmi:(M.vals x)[i]?=some ((M.vals x)[i]'(by rw[←HVN.out];exact hlt)):=List.getElem?_eq_getElem _
   generalize (M.vals x)[i]'(by rw[←HVN.out];exact hlt)=m at hmi
   have hva:=HVA.out
   obtain⟨b,o,v1,v2,v3,ha,g0,g1,g2,g3,hM⟩:=hva i m hmi
   clear hva
   have hb0:Below w0.heap.size w0 wr:=HB.out.trans ((HBW.out wr HI.out.1).mono HN0.out)
   have HBOB:Hid (B<O):=by have:=HBO.out;show _<_;omega
   have hBne:O≠B:=by have:=HBOB.out;omega
   have HBL0:Hid (b<B):=Nat.lt_of_lt_of_le (World.block_lt_of_cell? w0 _ g0) HN0.out
   have hkr:=zaa hb0
   replace g0:=hkr _ _ g0
   replace g1:=hkr _ _ g1
   replace g2:=hkr _ _ g2
   replace g3:=hkr _ _ g3
   have HM:=hid hM
   have HB0:=hid hb0
   have HMB:Hid (vwt (mwt d) m≤1099511627776):=by
    have h1:=zau (vwt (mwt d)) (M.vals x) m (List.mem_of_getElem? hmi)
    have h2:1+twt (M.unk x)+((M.vals x).map (vwt (mwt d))).sum≤1099511627776:=HW.out
    show _≤_;omega
   have hix:=zad Tryz.underlying24 zdd ha i hlt (cap:=vc)
   have hbl:b<wr.heap.size:=World.block_lt_of_cell? wr _ g0
   have c2:=HI.out.2.2.2.2.1.cell 0 _ rfl
   have hfz:=HI.out.2.2.2.2.1.free 0
   have hbl2:=HI.out.2.1
   have hbne:O≠b:=by have:=HBL0.out;have:=HBOB.out;omega
   generalize hmn:m.num=mn at *
   clear ha hkr hM hb0
   have e0:wr.drew.cell? ⟨O,0,none⟩=some (.slice oa i oc):=c2
   have HC0:Hid (wr.drew.cell? ⟨B,0,none⟩=some (.slice va vn vc)∧wr.drew.cell? ⟨b,o+i*4,none⟩=some (.int .i64 mn)∧wr.drew.cell? ⟨b,o+i*4+1,none⟩=some v1∧wr.drew.cell? ⟨b,o+i*4+2,none⟩=some v2∧wr.drew.cell? ⟨b,o+i*4+3,none⟩=some v3):=⟨c1,g0,g1,g2,g3⟩
   have k0:=HC0.out
   have HN3:Hid (w0.heap.size≤O+1):=by have:=HN0.out;have:=HBOB.out;show _≤_;omega
   have HTL:Hid (((M.vals x).take i).length=i):=by rw[Hid,List.length_take,←HVN.out];omega
   have HLI:Hid (i≤1099511627776):=by have:=HLN.out;show _≤_;omega
   go_wp2_with fail
   have HTA:Hid ((M.vals x).take (i+1)=(M.vals x).take i++[m]):=by rw[Hid,List.take_add_one,hmi];rfl
   have HQ:Hid (∀ (w5:World) (a5:Option Addr) (c5:Nat),Below (O+1) wr w5→zam (zeE d) 42 4 w0.heap.size (O+1) w5 (.slice a5 (i+1) c5) ((M.vals x).take i++[m]) →
     ∀ w6,w6=w5.setCell ⟨O,0,none⟩ (.slice a5 (i+1) c5)→(Below O w3 w6∧O<w6.heap.size∧Blk w6 B [.slice va vn vc,.slice ua un uc] 27∧Blk w6 (B+1) [.slice none 0 0,.slice none 0 0] 38∧Blk w6 O [.slice a5 (i+1) c5,.slice a3 un c3] 38∧zam (zeE d) 42 4 w0.heap.size (O+1) w6 (.slice a5 (i+1) c5) ((M.vals x).take (i+1)))):=by
    rintro w5 a5 c5 h1 h2 w6 rfl
    have:=HBO.out
    refine⟨(HI.out.1.trans (h1.mono (by omega))).setCell (by show O≤O;omega) _,by have:=h1.size;simp;omega,?_,?_,?_,?_⟩
    ·
     exact Blk.set_other ((h1.block B (by omega)).trans HI.out.2.2.1) _ _ (by show B≠O;omega)
    ·
     exact Blk.set_other ((h1.block (B+1) (by omega)).trans HI.out.2.2.2.1) _ _ (by show B+1≠O;omega)
    ·
     exact Blk.set ((h1.block O (by omega)).trans HI.out.2.2.2.2.1) 0 _
    ·
     rw[HTA.out]
     refine h2.later (fun b' _ hc=>Below.heap_setCell w5 _ _ b' ?_) (by simp)
     show b'≠O
     have:=HN0.out
     omega
   have k01:=k0.1
   have k02:=k0.2.1
   have k03:=k0.2.2.1
   have k04:=k0.2.2.2.1
   have k05:=k0.2.2.2.2
   go_region_law (first|(go_simp;go_at_call 8;(with_reducible refine (HIH.out wr.drew _ m HM.out HB0.out.drew HMB.out).mono ?_);rintro e w1 ⟨vm,rfl,hbm,hap⟩;obtain⟨nn,a1,n1,cc1,a2,n2,cc2,aa3,n3,cc3,rfl⟩:=hap.here.form;have hk1:∀ p u,wr.drew.cell? p=some u→w1.cell? p=some u:=zaa hbm;have e1:w1.cell? ⟨O,0,none⟩=some (.slice oa i oc):=hk1 _ _ e0;have k1:w1.cell? ⟨B,0,none⟩=some (.slice va vn vc)∧w1.cell? ⟨b,o+i*4,none⟩=some (.int .i64 mn)∧w1.cell? ⟨b,o+i*4+1,none⟩=some v1∧w1.cell? ⟨b,o+i*4+2,none⟩=some v2∧w1.cell? ⟨b,o+i*4+3,none⟩=some v3:=⟨hk1 _ _ k0.1,hk1 _ _ k0.2.1,hk1 _ _ k0.2.2.1,hk1 _ _ k0.2.2.2.1,hk1 _ _ k0.2.2.2.2⟩;obtain⟨a5,c5,w5,hr5,hO5,hB4,hB5⟩:=zam.step HI.out.2.2.2.2.2 ((Below.refl wr.heap.size wr).drew.trans hbm) (by decide) HN3.out HI.out.2.1 HTL.out 36 _ 80 Tryz.underlying36 zjJ rfl #[.int .i64 nn,.slice a1 n1 cc1,.slice a2 n2 cc2,.slice aa3 n3 cc3] rfl (by intro u hu;simp at hu;rcases hu with rfl|rfl|rfl|rfl <;> rfl) m hap HLI.out (by decide);have e5:w5.cell? ⟨O,0,none⟩=some (.slice oa i oc):=(hB5.cell (p:=⟨O,0,none⟩) (by show O<O+1;omega)).trans c2;have k3:w5.cell? ⟨B,0,none⟩=some (.slice va vn vc)∧w5.cell? ⟨b,o+i*4,none⟩=some (.int .i64 mn)∧w5.cell? ⟨b,o+i*4+1,none⟩=some v1∧w5.cell? ⟨b,o+i*4+2,none⟩=some v2∧w5.cell? ⟨b,o+i*4+3,none⟩=some v3:=⟨(hB5.cell (p:=⟨B,0,none⟩) (by show B<O+1;have:=HBOB.out;omega)).trans c1,(hB5.cell (p:=⟨b,o+i*4,none⟩) (by show b<O+1;have:=HBL0.out;have:=HBOB.out;omega)).trans g0,(hB5.cell (p:=⟨b,o+i*4+1,none⟩) (by show b<O+1;have:=HBL0.out;have:=HBOB.out;omega)).trans g1,(hB5.cell (p:=⟨b,o+i*4+2,none⟩) (by show b<O+1;have:=HBL0.out;have:=HBOB.out;omega)).trans g2,(hB5.cell (p:=⟨b,o+i*4+3,none⟩) (by show b<O+1;have:=HBL0.out;have:=HBOB.out;omega)).trans g3⟩;have z3:w5.frozen? ⟨O,0,none⟩=false:=(hB5.frozen (p:=⟨O,0,none⟩) (by show O<O+1;omega)).trans hfz;have e4:=(hB4.cell (p:=⟨O,0,none⟩) (by show O<O+1;omega)).trans c2;have HR2:=hid hr5;have HO5:=hid hO5;have HB4:=hid hB4;have HB5:=hid hB5;clear hr5 hO5 hB4 hB5 hk1)|(refine zaQ rfl (.tmp 18) (.tmp 25) _ rfl _ _ rfl rfl HR2.out ?_))
   all_goals
    go_wp2_with fail
    go_roundw
    case rel=>exact⟨i+1,_,_,by go_num,hlt,HQ.out _ _ _ HB5.out HO5.out _ rfl⟩
    case measure=>simp[intOf];omega
  ·
   obtain rfl:i=vn:=by omega
   have hO:=HI.out.2.2.2.2.1
   have hR:=HI.out.2.2.2.1
   have b0:=hO.cell 0 _ rfl
   have b1:=hO.cell 1 _ rfl
   have r0:=hR.cell 0 _ rfl
   have r1:=hR.cell 1 _ rfl
   have f0:=hR.free 0
   have f1:=hR.free 1
   have hlr:=hR.lt
   have hlo:=hO.lt
   have HLO:=hid hlo
   clear hO hR
   go_wp2_with fail
   refine bodyPost_ret (v:=.agg #[.slice oa i oc,.slice a3 un c3]) ?_ rfl ⟨_,rfl,?_,?_⟩
   ·
    simp[results,Tryz.results7,go_sem,r0,r1]
   ·
    have hBw:w.heap.size≤B+1:=by rw[←HBB.out];omega
    (with_reducible repeat first|exact Below.refl _ _|refine pzA ?_ _|refine pzB ?_ _|refine zab ?_ _|refine Below.drew ?_)
    rw[←HBB.out]
    exact HBW.out _ HI.out.1
   ·
    intro w2 hw2
    have hag:∀ b',b'<wr.heap.size→(b'<w0.heap.size∨B+1+1≤b')→w2.heap[b']?=wr.heap[b']?:=by
     intro b' hlt' hc
     have hne:b'≠B+1:=by have:=HN0.out;omega
     refine (hw2 b' (by simpa using hlt') (hc.imp id fun h=>by rw[←HBB.out];omega)).trans ?_
     rw[Below.heap_setCell _ _ _ b' hne,Below.heap_setCell _ _ _ b' hne]
    have hsub:=HI.out.2.2.2.2.2.at (by rw[List.length_take];have:=HLN.out;omega) (fun b' h1 h2=>hag b' h1 (h2.imp id fun h=>by have:=HBO.out;omega))
    rw[List.take_of_length_le (by rw[HVN.out];exact Nat.le_refl _)] at hsub
    exact HFIN.out w2 (fun b' h1 h2=>(hag b' (by have:=HI.out.2.1;omega) (.inr h2)).trans (HI.out.1.block b' h1)) _ hsub
theorem zdr (w0:World):∀ d,OfOk w0 d
 | 0=>fun _ _ _ h=>h.elim
 | d+1=>zkF fun _ _ _ h hb hw=>zcy (zdr w0 d) h hb hw
theorem zeA {w:World}{d:Nat}{v:Value}{x:M d}(h:zac d w v x)(hw:mwt d x≤1099511627776) :
  Calls Tryz.prog 7 #[v] w fun e w'=>∃ v',e= .returned v'∧Below w.heap.size w w'∧zac d w' v' x:=
 (zdr w d w v x h (Below.refl _ _) hw).mono fun _ _ ⟨v',h1,h2,h3⟩=>⟨v',h1,h2,h3.here⟩
theorem zbN {w:World}{d:Nat}{v:Value}{x:Val (M d)}(h:zat (zac d) w v x)(hw:vwt (mwt d) x≤1099511627776) :
  Calls Tryz.prog 8 #[v] w fun e w'=>∃ v',e= .returned v'∧Below w.heap.size w w'∧zat (zac d) w' v' x:=
 (zcy (zdr w d) h (Below.refl _ _) hw).mono fun _ _ ⟨v',h1,h2,h3⟩=>⟨v',h1,h2,h3.here⟩
end
section
open Go.RowKit
/-! Literals: a block as a slice. -/
theorem znI {w:World}{g:Nat}{l:List Nat}{T:TypeId}(h:Blk w g (l.map zgK) T)(n:Nat)(hl:n=l.length)(hn:n≤140737488355328)(h64:∀ x∈l,x<2 ^ 64):zbn w (.slice (some ⟨g,0,none⟩) n n) l:=by
 subst hl
 exact⟨zcS h 1 _ (by simp) hn,h64⟩
theorem zfa (w:World):zaV w (.slice none 0 0) []:=⟨⟨rfl,by simp,_,_,rfl,Nat.le_refl _,by omega,fun _=>rfl,fun j u hu=>by simp at hu⟩,by simp⟩
theorem zds {α:Type}(P:World→List Value→α→Prop)(k:Nat)(w:World):zca P k w (.slice none 0 0) []:=⟨[],rfl,by simp,⟨by simp,by simp,_,_,rfl,Nat.le_refl _,by omega,fun _=>rfl,fun j u hu=>by simp at hu⟩,by simp⟩
theorem zme {w:World}{g:Nat}{fs:List Fld}{T:TypeId}(h:Blk w g (fs.flatMap Fld.cells) T)(n:Nat)(hl:n=fs.length)(hn:n≤140737488355328)(hok:∀ f∈fs,f.Ok):za4 w (.slice (some ⟨g,0,none⟩) n n) fs:=by
 subst hl
 refine⟨zcS h 6 _ ?_ hn,hok⟩
 clear h hok hn
 induction fs with
 | nil=>rfl
 | cons f r ih=>rw[List.flatMap_cons,List.length_append,ih,List.length_cons,Nat.succ_mul];show 6+_=_;omega
theorem zh7 {w:World}{g:Nat}{name:ByteArray}{fs:List Fld}{fv:Value}{T:TypeId}(h:Blk w g [.string name,fv] T)(hn:name.size≤140737488355328)(hf:za4 w fv fs):zaj w (.slice (some ⟨g,0,none⟩) 1 1) [⟨name,fs⟩]:=by
 refine⟨[fv],rfl,zcS h 2 1 rfl (by omega),by simpa using hn,fun i hi=>?_⟩
 have:i=0:=by simp at hi;omega
 subst this
 exact hf
theorem zoX {d:Nat}{w:World}{g:Nat}{wv tv sv:Value}{x:Val (M d)}{T:TypeId}(h:Blk w g [.int .i64 x.num,wv,tv,sv] T)(hv:zat (zac d) w (.agg #[.int .i64 x.num,wv,tv,sv]) x):zeG (zac d) w (.slice (some ⟨g,0,none⟩) 1 1) [x]:=by
 refine⟨[[.int .i64 x.num,wv,tv,sv]],rfl,by simp,by simpa using zcS h 4 1 rfl (by omega),fun i r y hr hy=>?_⟩
 match i with
 | 0 =>
  simp at hr hy
  subst hr
  subst hy
  exact hv
 | i+1=>simp at hr
end
section
open Go.RowKit
structure MB (d:Nat)(T:TypeId)(W:World)(B:Nat)(a:Option Addr)(n c:Nat)(b:Option Addr)(m k:Nat)(z:M d):Prop where
 blk:Blk W B [.slice a n c,.slice b m k] T
 msg:zac d W (.agg #[.slice a n c,.slice b m k]) z
variable {d:Nat} {T:TypeId} {W W':World} {B:Nat} {a:Option Addr} {n c:Nat} {b:Option Addr} {m k:Nat} {z:M d}
theorem MB.below (h:MB d T W B a n c b m k z)(hb:Below W.heap.size W W'):MB d T W' B a n c b m k z:=⟨h.blk.below hb,h.msg.below hb⟩
theorem MB.c0 (h:MB d T W B a n c b m k z):W.cell? ⟨B,0,none⟩=some (.slice a n c):=h.blk.cell 0 _ rfl
theorem MB.c1 (h:MB d T W B a n c b m k z):W.cell? ⟨B,1,none⟩=some (.slice b m k):=h.blk.cell 1 _ rfl
theorem MB.lt (h:MB d T W B a n c b m k z):B<W.heap.size:=h.blk.lt
structure MV (d:Nat)(T:TypeId)(W:World)(B:Nat)(q:Int)(a1:Option Addr)(n1 k1:Nat)(a2:Option Addr)(n2 k2:Nat)(a3:Option Addr)(n3 k3:Nat)(u:Val (M d)):Prop where
 blk:Blk W B [.int .i64 q,.slice a1 n1 k1,.slice a2 n2 k2,.slice a3 n3 k3] T
 val:zat (zac d) W (.agg #[.int .i64 q,.slice a1 n1 k1,.slice a2 n2 k2,.slice a3 n3 k3]) u
section
variable {q:Int} {a1 a2 a3:Option Addr} {n1 n2 n3 k1 k2 k3:Nat} {u:Val (M d)}
theorem MV.below (h:MV d T W B q a1 n1 k1 a2 n2 k2 a3 n3 k3 u)(hb:Below W.heap.size W W'):MV d T W' B q a1 n1 k1 a2 n2 k2 a3 n3 k3 u:=⟨h.blk.below hb,VMsg.below h.val hb⟩
theorem MV.c0 (h:MV d T W B q a1 n1 k1 a2 n2 k2 a3 n3 k3 u):W.cell? ⟨B,0,none⟩=some (.int .i64 q):=h.blk.cell 0 _ rfl
theorem MV.c1 (h:MV d T W B q a1 n1 k1 a2 n2 k2 a3 n3 k3 u):W.cell? ⟨B,1,none⟩=some (.slice a1 n1 k1):=h.blk.cell 1 _ rfl
theorem MV.c2 (h:MV d T W B q a1 n1 k1 a2 n2 k2 a3 n3 k3 u):W.cell? ⟨B,2,none⟩=some (.slice a2 n2 k2):=h.blk.cell 2 _ rfl
theorem MV.c3 (h:MV d T W B q a1 n1 k1 a2 n2 k2 a3 n3 k3 u):W.cell? ⟨B,3,none⟩=some (.slice a3 n3 k3):=h.blk.cell 3 _ rfl
theorem MV.lt (h:MV d T W B q a1 n1 k1 a2 n2 k2 a3 n3 k3 u):B<W.heap.size:=h.blk.lt
theorem MV.new (W:World)(h:zat (zac d) W (.agg #[.int .i64 q,.slice a1 n1 k1,.slice a2 n2 k2,.slice a3 n3 k3]) u)(T:TypeId):MV d T (W.alloc (.cells #[.int .i64 q,.slice a1 n1 k1,.slice a2 n2 k2,.slice a3 n3 k3] T)) W.heap.size q a1 n1 k1 a2 n2 k2 a3 n3 k3 u∧Below W.heap.size W (W.alloc (.cells #[.int .i64 q,.slice a1 n1 k1,.slice a2 n2 k2,.slice a3 n3 k3] T)):=by
 have hb:Below W.heap.size W (W.alloc (.cells #[.int .i64 q,.slice a1 n1 k1,.slice a2 n2 k2,.slice a3 n3 k3] T)):=(Below.refl _ _).alloc (Nat.le_refl _) _
 exact⟨⟨Blk.new W [.int .i64 q,.slice a1 n1 k1,.slice a2 n2 k2,.slice a3 n3 k3] T,VMsg.below h hb⟩,hb⟩
end
def ziG (d:Nat):M (d+1):=(⟨[],[]⟩:zec (M d))
theorem zeh (w:World)(d:Nat):zac (d+1) w (.agg #[.slice none 0 0,.slice none 0 0]) (ziG d):=⟨_,_,rfl,zds _ _ _,zfa _⟩
end
section
open Go.RowKit
variable {K:Type}
def zfb [DecidableEq K](k:K)(v:Value):List (K × Value)→List (K × Value)
 | []=>[]
 | (k',u)::r=>if k=k' then (k',v)::r else (k',u)::zfb k v r
def zf2 [DecidableEq K](k:K)(v:Value)(es:List (K × Value)):List (K × Value):=if (zal k es).isSome=true then zfb k v es else es++[(k,v)]
theorem zjL [DecidableEq K](k:K)(v:Value):∀ es:List (K × Value),(zfb k v es).length=es.length
 | []=>rfl
 | (k',u)::r=>by
  rw[zfb]
  split
  ·
   rfl
  ·
   rw[List.length_cons,List.length_cons,zjL k v r]
theorem zjM [DecidableEq K](k:K)(v:Value)(k':K):∀ es:List (K × Value),zal k' (zfb k v es)=if k'=k then (if (zal k es).isSome=true then some v else none) else zal k' es
 | []=>by simp[zfb,zal]
 | (q,u)::r=>by
  rw[zfb]
  by_cases h:k=q
  ·
   subst h
   rw[if_pos rfl,zal,zal,zal,if_pos rfl]
   by_cases h2:k'=k
   ·
    rw[if_pos h2,if_pos h2];rfl
   ·
    rw[if_neg h2,if_neg h2,if_neg h2]
  ·
   rw[if_neg h,zal,zal,zal,if_neg h,zjM k v k' r]
   by_cases h2:k'=q
   ·
    rw[if_pos h2,if_neg (by rintro rfl;exact h h2),if_pos h2]
   ·
    rw[if_neg h2,if_neg h2]
theorem zh8 [DecidableEq K](k':K):∀ (a b:List (K × Value)),zal k' (a++b)=match zal k' a with|some v=>some v|none=>zal k' b
 | [],b=>rfl
 | (q,u)::r,b=>by
  rw[List.cons_append,zal,zal]
  by_cases h:k'=q
  ·
   rw[if_pos h,if_pos h]
  ·
   rw[if_neg h,if_neg h];exact zh8 k' r b
theorem zoY [DecidableEq K](k:K)(v:Value)(es:List (K × Value))(k':K):zal k' (zf2 k v es)=if k'=k then some v else zal k' es:=by
 unfold zf2
 by_cases h:(zal k es).isSome=true
 ·
  rw[if_pos h,zjM,if_pos h]
 ·
  rw[if_neg h,zh8]
  by_cases h2:k'=k
  ·
   subst h2
   rw[if_pos rfl]
   cases h3:zal k' es with
   | some u=>rw[h3] at h;exact absurd rfl h
   | none=>simp[zal]
  ·
   rw[if_neg h2]
   cases zal k' es with
   | some u=>rfl
   | none=>simp only[zal];rw[if_neg h2]
theorem zlv [DecidableEq K](k:K):∀ (es:List (K × Value)) (j p:Nat) (v:Value),zbT k es j=some (p,v)→j≤p
 | [],_,_,_,h=>by cases h
 | (k',u)::r,j,p,v,h=>by
  rw[zbT] at h
  split at h
  ·
   cases h;exact Nat.le_refl _
  ·
   exact Nat.le_of_succ_le (zlv k r (j+1) p v h)
theorem zlw [DecidableEq K](kv:K→Value)(k:K)(v:Value):∀ (es:List (K × Value)) (i j p:Nat) (u:Value),zbT k es j=some (p,u) →
  ((zcd kv es i)[p - j]?).map (·.key)=some (kv k)∧(zcd kv es i).modify (p - j) (fun e=>{ e with key:=kv k,val:=v })=zcd kv (zfb k v es) i
 | [],_,_,_,_,h=>by cases h
 | (k',w)::r,i,j,p,u,h=>by
  rw[zbT] at h
  by_cases e:k=k'
  ·
   rw[if_pos e] at h
   cases h
   subst e
   rw[zfb,if_pos rfl,Nat.sub_self]
   simp[zcd]
  ·
   rw[if_neg e] at h
   have hp:=zlv k r (j+1) p u h
   obtain⟨h1,h2⟩:=zlw kv k v r (i+1) (j+1) p u h
   rw[zfb,if_neg e]
   obtain⟨q,hq⟩:∃ q,p - j=q+1:=⟨p - j - 1,by omega⟩
   have hq':p - (j+1)=q:=by omega
   rw[hq'] at h1 h2
   rw[hq]
   simp only[zcd,List.getElem?_cons_succ,List.modify_succ_cons]
   exact⟨h1,by rw[h2]⟩
theorem zp0 [DecidableEq K]{P:Program}{t kt et:TypeId}{kv:K→Value}(KO:zit P kt kv)(hsb:∀ k,Instr.sameBits 10000 (kv k) (kv k)=true)(ht:P.underlying t=some (.map kt et)){w:World}{r:Nat}{es:List (K × Value)}(h:zas w r kv es)(k:K)(v:Value) :
  (Instr.mapUpdate t (.map (some r)) (kv k) v).run P w= .ok () (za9 w r kv (zf2 k v es)):=by
 cases hg:zal k es with
 | none =>
  rw[zes KO ht h k v hg]
  unfold zf2
  rw[hg,if_neg (by decide)]
 | some u =>
  have hf:=KO.find w k es 0
  obtain⟨p,hp⟩:∃ p,zbT k es 0=some (p,u):=by
   have:=zbY k es 0
   rw[hg] at this
   cases hp:zbT k es 0 with
   | none=>rw[hp] at this;cases this
   | some x=>rw[hp] at this;obtain⟨p,y⟩:=x;cases this;exact⟨p,rfl⟩
  rw[hp] at hf
  obtain⟨h1,h2⟩:=zlw kv k v es 0 0 p u hp
  rw[Nat.sub_zero] at h1 h2
  have hkey:(Instr.keyThatStays (kv k) (kv k)).run P w= .ok (kv k) w:=by
   unfold Instr.keyThatStays
   rw[if_pos (hsb k)]
   rfl
  have hk0:((((zcd kv es 0).toArray)[p]?).map (·.key)).getD (kv k)=kv k:=by
   rw[List.getElem?_toArray,h1];rfl
  simp only[Instr.mapUpdate,Sem.run_bind,run_underlying ht,Result.andThen,MapKept.run_getObj_map h,KO.check,hf,hk0,hkey,MapKept.run_setObj_map _ h,za9]
  congr 3
  unfold zf2
  rw[hg,if_pos (show (some u).isSome=true from rfl),zjL,List.modify_toArray,h2]
theorem zjN (k:Int):Instr.sameBits 10000 (.int .i64 k) (.int .i64 k)=true:=by
 simp[Instr.sameBits]
end
section
open Go.RowKit Go.Maps Go.Sort Go.Shelf
def RU (_:Value):Option (DataW Unit × List MemPlace):=some (.lit (.bool true),[])
theorem ziH {es:List (Int × Value)}:∀ {i:Nat} {x:MapEntry},x∈zcd zbK es i→∃ p v,(p,v)∈es∧x.key= .int .i64 p∧i≤x.born∧x.born<i+es.length:=by
 induction es with
 | nil=>intro i x h;cases h
 | cons e r ih =>
  obtain⟨p,v⟩:=e
  intro i x h
  rw[zcd] at h
  rcases List.mem_cons.1 h with rfl|h
  ·
   exact⟨p,v,by simp,rfl,Nat.le_refl _,by simp⟩
  ·
   obtain⟨q,u,h1,h2,h3,h4⟩:=ih h
   exact⟨q,u,by simp[h1],h2,by omega,by simp;omega⟩
theorem zjO {es:List (Int × Value)}:∀ i:Nat,((zcd zbK es i).map (·.born)).Nodup:=by
 induction es with
 | nil=>intro i;simp[zcd]
 | cons e r ih =>
  obtain⟨p,v⟩:=e
  intro i
  rw[zcd,List.map_cons,List.nodup_cons]
  refine⟨fun h=>?_,ih (i+1)⟩
  obtain⟨x,hx,e⟩:=List.mem_map.1 h
  obtain⟨-,-,-,-,h3,-⟩:=ziH hx
  simp only at e
  omega
theorem znJ {es:List (Int × Value)}:∀ i:Nat,(zcd zbK es i).map (·.key)=(es.map Prod.fst).map zbK:=by
 induction es with
 | nil=>intro i;rfl
 | cons e r ih =>
  obtain⟨p,v⟩:=e
  intro i
  rw[zcd,List.map_cons,ih];rfl
theorem zg0 (x:Lit × DataW Unit):∀ l:List (Lit × DataW Unit),(DataW.insert x l).Perm (x::l)
 | []=>List.Perm.refl _
 | y::r=>by
  rw[DataW.insert]
  split
  ·
   exact List.Perm.refl _
  ·
   exact ((zg0 x r).cons y).trans (List.Perm.swap x y r)
theorem zfx:∀ l:List (Lit × DataW Unit),(l.foldr DataW.insert []).Perm l
 | []=>List.Perm.refl _
 | x::r=>(zg0 x _).trans ((zfx r).cons x)
theorem znK {p:Int}(h:zcb p):(Lit.int .i64 p).wf=true:=by
 unfold zcb at h
 show (decide (IntKind.i64.min≤p)&&decide (p≤IntKind.i64.max))=true
 rw[Bool.and_eq_true,decide_eq_true_eq,decide_eq_true_eq,(by decide:IntKind.i64.min= -9223372036854775808),(by decide:IntKind.i64.max=9223372036854775807)]
 exact h
theorem Tryz.sortsA (m:Nat):AnyZI.SortsIn Tryz.prog Tryz.sortedA_ren Fence.wide m:=
 ⟨fun blk off cap ss W hH hblk hsz=>callsIn_wide.2 (AnyM.slices_Sort_int Tryz.sortA blk off cap ss W hH hblk hsz),
  fun p cap W=>callsIn_wide.2 (AnyM.slices_Sort_int_none Tryz.sortA p cap W)⟩
theorem znL (mb:Option Nat)(W:World):Calls Tryz.prog 99 #[.map mb] W fun e w'=>e= .returned (.func (.func 133) #[] #[.pointer (some ⟨W.heap.size,0,none⟩)])∧w'=W.alloc (.cells #[.map mb] 113):=
 (callsIn_wide (n:=5)).1 (AnyZI.keys_in Tryz.keysA Fence.wide 5 trivial rfl mb W)
end
section
open Go.RowKit
def s32 (x:Nat):Int:=if x % 4294967296<2147483648 then ((x % 4294967296:Nat):Int) else ((x % 4294967296:Nat):Int) - 4294967296
def w32 (x:Nat):Nat:=if x % 4294967296<2147483648 then x % 4294967296 else x % 4294967296+18446744069414584320
def zaB (k:Int)(x:Nat):Nat:=if k=1∨k=8 then w32 x else if k=7 then (if 0<x then 1 else 0) else if k=3∨k=5∨k=9∨k=10∨k=11 then x % 4294967296 else x
theorem w32_lt (x:Nat):w32 x<2 ^ 64:=by unfold w32;split <;> omega
theorem znM (k:Int){x:Nat}(h:x<2 ^ 64):zaB k x<2 ^ 64:=by
 unfold zaB
 have:=w32_lt x
 split
 ·
  exact this
 ·
  split
  ·
   split <;> omega
  ·
   split <;> omega
theorem zmf (x:Nat)(w:World) :
  Calls Tryz.prog 92 #[.int .u64 x] w fun e w'=>e= .returned (.int .u32 ((x % 4294967296:Nat):Int))∧w=w':=by
 go_enter Tryz.func92,Tryz.ntmps92
 go_wp2
 go_ret
 exact⟨zcG (zbC (by omega)),rfl⟩
theorem zkG (x:Nat)(w:World) :
  Calls Tryz.prog 90 #[.int .u64 x] w fun e w'=>e= .returned (.int .i32 (s32 x))∧w=w':=by
 have h:IntKind.i32.wrap ((x:Int) % 4294967296)=s32 x:=by
  unfold s32
  simp[IntKind.wrap,IntKind.bits,IntKind.signed]
  split <;> split <;> omega
 go_enter Tryz.func90,Tryz.ntmps90
 go_wp2
 go_ret
 exact⟨zcG (zbC (by first|exact h|rw[←h])),rfl⟩
theorem zkH (x:Nat)(w:World) :
  Calls Tryz.prog 89 #[.int .i32 (s32 x)] w fun e w'=>e= .returned (.int .u64 (w32 x))∧w=w':=by
 have h:(s32 x) % 18446744073709551616=(w32 x:Int):=by
  unfold s32 w32
  split <;> omega
 have h2:-2147483648≤s32 x∧s32 x<2147483648:=by
  unfold s32
  split <;> omega
 generalize s32 x=z at *
 go_enter Tryz.func89,Tryz.ntmps89
 go_wp2
 go_ret
 exact⟨zcG (zbC (by first|exact h|(rw[←h];omega))),rfl⟩
theorem zjP (x:Nat)(w:World) :
  Calls Tryz.prog 72 #[.int .u64 x] w fun e w'=>e= .returned (.int .i64 (s32 x))∧w=w':=by
 obtain⟨m,hm⟩:∃ m:Int,(x:Int) % 4294967296=m:=⟨_,rfl⟩
 have hm0:0≤m∧m<4294967296:=by omega
 have hcv:IntKind.i64.wrap m=m:=IntWalk.i64_in _ (by omega)
 by_cases h:m<2147483648
 ·
  have HS:Hid (m=s32 x):=by unfold s32;rw[if_pos (by omega)];rw[Hid];omega
  go_enter Tryz.func72,Tryz.ntmps72
  go_wp2
  go_ret
  exact⟨zcG (zbC HS.out),rfl⟩
 ·
  have HS:Hid (m - 4294967296=s32 x):=by unfold s32;rw[if_neg (by omega)];rw[Hid];omega
  go_enter Tryz.func72,Tryz.ntmps72
  go_wp2
  go_ret
  exact⟨zcG (zbC HS.out),rfl⟩
theorem zmg (x:Nat)(w:World) :
  Calls Tryz.prog 71 #[.int .i64 (s32 x)] w fun e w'=>e= .returned (.int .u64 (w32 x))∧w=w':=by
 by_cases h:x % 4294967296<2147483648
 ·
  have h1:s32 x=((x % 4294967296:Nat):Int):=by unfold s32;rw[if_pos h]
  have h2:w32 x=x % 4294967296:=by unfold w32;rw[if_pos h]
  rw[h1,h2]
  generalize x % 4294967296=m at *
  clear h1 h2
  go_enter Tryz.func71,Tryz.ntmps71
  go_wp2
  go_ret
  exact⟨zcG (zbC (by omega)),rfl⟩
 ·
  have h1:s32 x=((x % 4294967296:Nat):Int) - 4294967296:=by unfold s32;rw[if_neg h]
  have h2:w32 x=x % 4294967296+18446744069414584320:=by unfold w32;rw[if_neg h]
  have h3:s32 x<0:=by omega
  have h4:-2147483648≤s32 x:=by omega
  have h5:((w32 x:Nat):Int)=18446744073709551615 - (-(s32 x+1)):=by rw[h1,h2];omega
  generalize s32 x=z at *
  rw[←Int.ofNat_inj] at h2
  generalize w32 x=y at *
  clear h1 h2 h
  go_enter Tryz.func71,Tryz.ntmps71
  go_wp2
  go_ret
  exact⟨zcG (zbC (by omega)),rfl⟩
end
section
open Go.RowKit
def zbp {α:Type}(R:Int→α→Bool)(f:Fld)(x:Val α):Bool:=
 if x.words.length+x.texts.length+x.subs.length=0∨1<x.words.length+x.texts.length+x.subs.length∧f.rep=false then false
 else if zaw f.kind=true then decide (x.texts.length=0∧x.subs.length=0)&&x.words.all fun w=>decide (zaB f.kind w=w)
 else if f.kind=17 then decide (x.words.length=0∧x.texts.length=0)&&x.subs.all (R f.of)
 else if f.kind=15 then decide (x.words.length=0∧x.subs.length=0)&&x.texts.all fun t=>decide (zbf t=t.length)
 else decide (f.kind=16)&&decide (x.words.length=0∧x.subs.length=0)
def zaR (fs:List Fld)(t:List UInt8):Bool:=decide ((zbE t 0).2=0∧(zbE t 0).1.to=t.length)&&decide (zak fs (zbE t 0).1.number<0)
def zei {α:Type}(F:Fld→Val α→Bool)(fs:List Fld):List (Val α)→Int→Bool
 | [],_=>true
 | x::r,last=>if zak fs x.num<0∨x.num≤last∨F (fs.getD (zak fs x.num).toNat .zero) x=false then false else zei F fs r x.num
def zae (s:List Mes):(d:Nat)→Int→M d→Bool
 | 0,_,_=>false
 | d+1,root,x=>if root<0∨(s.length:Int)≤root then false else
   zei (zbp (zae s d)) (s.getD root.toNat .zero).fields (M.vals x) 0&&(M.unk x).all (zaR (s.getD root.toNat .zero).fields)
end
end Go.Proofs.YtdpnmdkbdibkpaaGreatDoor
