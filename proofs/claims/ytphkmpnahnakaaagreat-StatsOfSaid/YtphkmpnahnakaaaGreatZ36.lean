/- Parts of a proof: texts of the author, merged. No condition of their own. -/
import Derived.Test.YtphkmpnahnakaaaGreatZ03
import Derived.Test.YtphkmpnahnakaaaGreatZ04
import Derived.Test.YtphkmpnahnakaaaGreatZ05
import Derived.Test.YtphkmpnahnakaaaGreatZ08
import Derived.Test.YtphkmpnahnakaaaGreatZ13
import Derived.Test.YtphkmpnahnakaaaGreatZ17
import Derived.Test.YtphkmpnahnakaaaGreatZ18
import Derived.Test.YtphkmpnahnakaaaGreatZ24
import Derived.Test.YtphkmpnahnakaaaGreatZ31
import Derived.Test.YtphkmpnahnakaaaGreatZ33
import Derived.Test.YtphkmpnahnakaaaGreatZ35
import Derived.Deep.CutBlock
import Derived.Laws.StructEq
namespace Go.Proofs.YtphkmpnahnakaaaGreat
open Go.RowKit
def cmpN (fs:List Fld) (x y:Int):Int:=if numAt fs x < numAt fs y then -1 else if numAt fs y < numAt fs x then 1 else 0
theorem agree_cmpN {fs:List Fld} {x y:Int} (h:x < y):Agree (cmpN fs) (Ahead fs) x y:=by
 unfold Agree cmpN Ahead
 constructor
 ·
  constructor
  ·
   intro h1
   split at h1
   ·
    rename_i h2;exact .inl h2
   ·
    split at h1 <;> omega
  ·
   intro h1
   rw [if_pos (by omega)];decide
 ·
  omega
set_option maxRecDepth 100000 in
set_option maxHeartbeats 4000000 in
theorem schema_Sorted_1 {w:World} {q:Nat} {_nm:ByteArray} {v:Value} {fs:List Fld} (h0:w.cell? ⟨q,1,none⟩ = some v) (h:FieldsAt w v fs) (x y:Int) (hx:0 ≤ x ∧ x < fs.length) (hy:0 ≤ y ∧ y < fs.length) :
  Calls Tryz.prog 79 #[.int .i64 x,.int .i64 y,.pointer (some ⟨q,0,none⟩)] w fun e w' => e = .returned (.int .i64 (cmpN fs x y)) ∧ Below w.heap.size w w':=by
 obtain ⟨i,rfl⟩:∃ i:Nat,x = i:=⟨x.toNat,by omega⟩
 obtain ⟨j,rfl⟩:∃ j:Nat,y = j:=⟨y.toNat,by omega⟩
 obtain ⟨hlen,a,cap,rfl,hat⟩:=h.open
 obtain ⟨n,HN⟩:∃ n,Hid (n = fs.length):=⟨_,rfl⟩
 rw [← HN.out] at hat hlen h0 hx hy
 have hin:i < n:=by omega
 have hjn:j < n:=by omega
 obtain ⟨b,o,ha,-,-,g1,-,-,-,-⟩:=hat i hin
 obtain ⟨b2,o2,ha2,-,-,g2,-,-,-,-⟩:=hat j hjn
 have hix:=index_run Tryz.underlying49 size_fld ha i hin (cap:=cap)
 have hix2:=index_run Tryz.underlying49 size_fld ha2 j hjn (cap:=cap)
 have HZ:Hid (cmpN fs (i:Int) (j:Int) = if (fs.getD i .zero).number < (fs.getD j .zero).number then -1 else if (fs.getD j .zero).number < (fs.getD i .zero).number then 1 else 0):=rfl
 obtain ⟨p,HP⟩:∃ p,Hid (p = (fs.getD i .zero).number):=⟨_,rfl⟩
 obtain ⟨r,HR⟩:∃ r,Hid (r = (fs.getD j .zero).number):=⟨_,rfl⟩
 rw [← HP.out] at g1 HZ
 rw [← HR.out] at g2 HZ
 obtain ⟨z,HZZ⟩:∃ z,Hid (z = cmpN fs (i:Int) (j:Int)):=⟨_,rfl⟩
 have HC:=hid (cmp_Compare_int p r w.drew)
 rw [← HZ.out,← HZZ.out] at HC
 rw [← HZZ.out]
 clear hat ha ha2 hx hy h HZ
 go_enter Tryz.func79,Tryz.ntmps79
 go_wp2_with fail
 go_still_tail 12,(by kernel_rfl)
 change wpList _ _ _ _ _ w.drew
 go_wp2_with fail
 refine HC.out.mono ?_
 rintro e w1 ⟨rfl,rfl⟩
 go_wp2_with fail
 go_ret
 exact ⟨rfl,(Below.refl _ _).drew⟩
def SortedPost (w:World) (l:List Int) (e:Ending) (w':World):Prop:=
 ∃ a c,e = .returned (.slice a l.length c) ∧ (l = [] ∨ ∃ g,a = some ⟨g,0,none⟩ ∧ w.heap.size ≤ g ∧ IRow w' g l) ∧ Below w.heap.size w w'
theorem irow_of_own {w:World} {base n c g:Nat} {l:List Int} (h:IntsOwn w base (.slice (some ⟨g,0,none⟩) n c) l) (hn:n = l.length):IRow w g l ∧ base ≤ g:=by
 rcases h.2 with ⟨h1,-⟩ | ⟨g',cap,cur,hv,hb,hg,hnc,hcm,hcs,ht⟩
 ·
  cases h1
 ·
  cases hv
  refine ⟨⟨cur,hg,by omega,?_⟩,hb⟩
  simpa using ht
set_option maxRecDepth 100000 in
set_option maxHeartbeats 8000000 in
theorem schema_Sorted {w:World} {v:Value} {fs:List Fld} (nm:ByteArray) (h:FieldsAt w v fs) (hl:fs.length ≤ 549755813888) :
  Calls Tryz.prog 50 #[.agg #[.string nm,v]] w (SortedPost w (sortedF fs)):=by
 have HF:=hid h
 obtain ⟨-,a,cap,rfl,-⟩:=h.open
 obtain ⟨n,HN⟩:∃ n,Hid (n = fs.length):=⟨_,rfl⟩
 rw [← HN.out] at hl HF ⊢
 obtain ⟨w1,HW1⟩:∃ w1,Hid (w1 = w.alloc (.cells #[.string nm,.slice a n cap] 51)):=⟨_,rfl⟩
 have hb1:Below w.heap.size w w1:=by rw [HW1.out];(repeat (first | with_reducible exact Below.refl _ _ | with_reducible refine Below.setCell ?_ (by first | omega | (simp;omega) | (simp;done)) _ | with_reducible refine Below.alloc ?_ (by first | omega | (simp;omega) | (simp;done)) _ | with_reducible refine below_drewN ?_ _ | with_reducible refine Below.drew ?_))
 have hbx:Blk w1 w.heap.size [.string nm,.slice a n cap] 51:=by rw [HW1.out];exact Blk.new w [.string nm,.slice a n cap] _
 have HB1:=hid hb1
 have HBX:=hid hbx
 have hsz1:Hid (w1.heap.size = w.heap.size + 1):=by rw [Hid,HW1.out];simp
 have c1:=hbx.cell 1 _ rfl
 have HCMP:Hid (∀ (g:Nat) (wq:World),w1.heap.size ≤ g → Below w1.heap.size w1 wq → CmpI 79 #[.pointer (some ⟨w.heap.size,0,none⟩)] (cmpN fs) wq g (upTo n)):=by
  intro g wq hg hbq x y wr hx hy hgr
  have hk:∀ b,b < w1.heap.size → wr.heap[b]? = w1.heap[b]?:=fun b hb => (hgr.block b (Nat.lt_of_lt_of_le hb hbq.size) (fun e => by cases e;omega)).trans (hbq.block b hb)
  have hc:∀ p u,w1.cell? p = some u → wr.cell? p = some u:=fun p u hu => (World.cell?_of_block (hk _ (World.block_lt_of_cell? w1 p hu))).trans hu
  refine schema_Sorted_1 (_nm:=nm) (hc _ _ (HBX.out.cell 1 _ rfl)) ((HF.out.below HB1.out).keep hc) x y ?_ ?_
  ·
   have:=upTo_mem.1 hx;rw [HN.out] at this;exact this
  ·
   have:=upTo_mem.1 hy;rw [HN.out] at this;exact this
 obtain ⟨Q,HQ⟩:∃ Q:Ending → World → Prop,Hid (Q = SortedPost w (sortedF fs)):=⟨_,rfl⟩
 rw [← HQ.out]
 clear h hb1 hbx
 go_enter Tryz.func50,Tryz.ntmps50
 go_wp2_with fail
 rw [← HW1.out]
 go_loopw [3,8] (fun v3 v8 wr => ∃ i:Nat,v8 = .int .i64 (i:Int) ∧ i ≤ n ∧ Hid (IntsOwn wr w1.heap.size v3 (upTo i) ∧ Below w1.heap.size w1 wr)) (fun _ v8 _ => n - (intOf v8).toNat)
 case atStart => exact ⟨0,rfl,by omega,World.ownsRow_nil _ _ _ _,Below.refl _ _⟩
 case round =>
  obtain ⟨i,rfl,hi,HI⟩:=hrel
  obtain ⟨oa,oc,hoe⟩:=HI.out.1.form
  rw [upTo_len] at hoe
  subst hoe
  by_cases hlt:i < n
  ·
   have hs0:=HI.out.2.size
   go_wp2_with (at_builtin;refine wpList_append_int rfl _ _ rfl rfl _ (i:Int) _ rfl rfl rfl ?c0 w1.heap.size (upTo i) ?c1 ?c2 ?c3 ?c4 ?_)
   case c0 => simp
   case c1 => exact HI.out.1
   case c2 => constructor <;> omega
   case c3 => rw [upTo_len];omega
   case c4 => exact hs0
   intro a' c' w5 hO5 hB5 hK5
   have hB5':=hB5 w1 HI.out.2
   rw [upTo_len] at hO5 ⊢
   rw [← upTo_succ] at hO5
   have HO5:=hid hO5
   have HB5:=hid hB5'
   clear hO5 hB5 hK5 hB5' hs0
   go_wp2_with fail
   go_roundw
   case rel => exact ⟨i + 1,by go_num,hlt,HO5.out,HB5.out⟩
   case measure => simp [intOf];omega
  ·
   obtain rfl:i = n:=by omega
   by_cases h0:i = 0
   ·
    have HE:Hid (sortedF fs = []):=List.eq_nil_of_length_eq_zero (by rw [sortedF_len,← HN.out];exact h0)
    have HBW:Hid (Below w.heap.size w wr):=HB1.out.trans (HI.out.2.mono HB1.out.size)
    subst h0
    go_wp2_with fail
    refine (sortStable_nil _ _ _ _).mono ?_
    rintro e w5 ⟨rfl,rfl⟩
    go_wp2_with fail
    rw [HQ.out]
    exact ⟨oa,oc,by rw [HE.out];rfl,.inl HE.out,HBW.out⟩
   ·
    obtain ⟨g,rfl⟩:∃ g,oa = some ⟨g,0,none⟩:=by
     rcases HI.out.1.2 with ⟨h1,h2⟩ | ⟨g',cap,cur,hv,-⟩
     ·
      exact absurd h2 (by rw [upTo_len];exact h0)
     ·
      exact ⟨g',(Value.slice.inj hv).1⟩
    obtain ⟨hir,hg⟩:=irow_of_own HI.out.1 (upTo_len i).symm
    have hA:(upTo i).Pairwise (Agree (cmpN fs) (Ahead fs)):=(upTo_sorted fs i).imp agree_cmpN
    have hst:=sortStable_int (c:=oc) (upTo_len i).symm (by omega) 79 #[.pointer (some ⟨w.heap.size,0,none⟩)] (cmpN fs) (fun args w => by simp [go_sem]) (HCMP.out g wr hg HI.out.2) Ahead.trans hA hir (World.grownBy.refl wr _)
    have HST:=hid hst
    have HGG:=hid hg
    clear hst hA hir
    go_wp2_with fail
    refine HST.out.mono ?_
    rintro e w5 ⟨rfl,Z,h1,h2,h3,h4⟩
    have HZE:Hid (Z = sortedF fs):=sortedF_unique (by rw [← HN.out];exact h1) h2
    have HB5:Hid (Below w.heap.size w w5):=HB1.out.trans ((HI.out.2.grown h4 HI.out.2.size (by intro q e;cases e;exact hg)).mono HB1.out.size)
    have HR5:=hid h3
    clear h1 h2 h3 h4 hg
    go_wp2_with fail
    rw [HQ.out]
    have h5:=HR5.out
    rw [HZE.out,List.nil_append,List.append_nil] at h5
    refine ⟨some ⟨g,0,none⟩,oc,by rw [sortedF_len,← HN.out];rfl,.inr ⟨g,rfl,?_,h5⟩,HB5.out⟩
    exact Nat.le_trans HB1.out.size HGG.out
end Go.Proofs.YtphkmpnahnakaaaGreat
namespace Go.Proofs.YtphkmpnahnakaaaGreat
open Go.RowKit
theorem view_num {s:List Mes} {d m:Nat} {l:List UInt8} {x:VW} (hx:ViewOk s d m l x) {k:Nat} (hk:x.k = k):((s.getD m .zero).fields.getD k .zero).number = (x.r.number:Int):=by
 obtain ⟨j,hj⟩:=hx.look
 rcases vlook_cases (s.getD m .zero).fields l j with ⟨c,hc',e,-⟩ | ⟨r',h1,h2,h3,h4,h5,e | ⟨k',run,hk',e,h6,-⟩⟩
 ·
  rw [e] at hj
  exact absurd (congrArg (fun t => t.2.2.2) hj) (by simpa using hc')
 ·
  rw [e] at hj
  have e2:(-1:Int) = x.k:=congrArg (fun t => t.2.1) hj
  omega
 ·
  rw [e] at hj
  have e1:r' = x.r:=congrArg (fun t => t.1) hj
  have e2:(k':Int) = x.k:=congrArg (fun t => t.2.1) hj
  have:k' = k:=by omega
  subst this
  rw [← e1];exact h6
end Go.Proofs.YtphkmpnahnakaaaGreat
namespace Go.Proofs.YtphkmpnahnakaaaGreat
open Go.RowKit
theorem nform_part {s:List Mes} (hs:sright s = true) {d m:Nat} {l:List UInt8} (hm:m < s.length) (h:(vmsg s d m l).2 = 0) (hl:l.length ≤ 1099511627776) (k:Nat) :
  (((sortedF (s.getD m .zero).fields).take k).flatMap fun i => nfield s d ((s.getD m .zero).fields.getD i.toNat .zero) l (viewsOf (vall (s.getD m .zero).fields l).1 i)).length ≤ 30 * l.length:=by
 have h1:=nform_len hs d m l hm h hl
 rw [nform_flat hs hm,List.length_append] at h1
 have h2:=flat_take_le (fun i => nfield s d ((s.getD m .zero).fields.getD i.toNat .zero) l (viewsOf (vall (s.getD m .zero).fields l).1 i)) (sortedF (s.getD m .zero).fields) k
 omega
set_option maxRecDepth 100000 in
set_option maxHeartbeats 16000000 in
theorem norm_form_step {s:List Mes} (hs:sright s = true) (d:Nat) (hrec:∀ d',d = d' + 1 → FormOk s d'):FormOk s d:=by
 intro w sv bv m l hS hm hb hl hv
 have HRE:=hid hrec
 obtain ⟨fs,HFS⟩:∃ fs,Hid (fs = (s.getD m .zero).fields):=⟨_,rfl⟩
 have HM:=hid hm
 have HL:=hid hl
 have HVV:=hid hv
 have HS:=hid hS
 have HB:=hid hb
 have HSR:=hid hs
 obtain ⟨-,sa,sc,rfl,hat⟩:=hS.open
 obtain ⟨sn,HSN⟩:∃ n,Hid (n = s.length):=⟨_,rfl⟩
 obtain ⟨sb,so,fv,hsa,-,c0,c1,hF⟩:=hat m hm
 subst hsa
 rw [← HFS.out] at hF
 rw [← HSN.out] at HS hm ⊢
 obtain ⟨nm,HNM⟩:∃ nm,Hid (nm = (s.getD m .zero).name):=⟨_,rfl⟩
 rw [← HNM.out] at c0
 obtain ⟨-,va,vcap,rfl,-⟩:=hb.open
 obtain ⟨ln,HLN⟩:∃ n,Hid (n = l.length):=⟨_,rfl⟩
 rw [← HLN.out] at HB ⊢
 obtain ⟨hfl,fa,fc,rfl,-⟩:=hF.open
 obtain ⟨fn,HFN⟩:∃ n,Hid (n = fs.length):=⟨_,rfl⟩
 have HFL:Hid (fs.length ≤ 200):=by rw [Hid,HFS.out];exact sright_fields' hs m (by rw [← HSN.out];exact hm)
 have HFT:=hid hF
 rw [← HFN.out] at HFT c1
 obtain ⟨all,HALL⟩:∃ all,Hid (all = (vall fs l).1):=⟨_,rfl⟩
 have hok:=vall_ok hv
 rw [← HFS.out] at hok
 have HG:=hid (norm_gather hb (by omega) hF nm hok.1 (fun x hx => by
  obtain ⟨f1,f2,f3,-⟩:=(hok.2 x hx).facts
  exact ⟨by omega,f3⟩))
 have hvo:=hok.2
 rw [← HALL.out] at HG hvo
 have HVO:=hid hvo
 rw [← HFN.out,← HLN.out] at HG
 obtain ⟨g,HGG⟩:∃ g:Int → List UInt8,Hid (g = fun i => nfield s d (fs.getD i.toNat .zero) l (viewsOf all i)):=⟨_,rfl⟩
 have HNF:Hid (nform s d m l = (sortedF fs).flatMap g ++ unkOf l all):=by
  rw [Hid,nform_flat hs (by rw [← HSN.out];exact hm),HGG.out,HALL.out,HFS.out];rfl
 have HGL:Hid (∀ k,(((sortedF fs).take k).flatMap g).length ≤ 32212254720):=fun k => by
  have h1:=nform_part hs (by rw [← HSN.out];exact hm) hv (by omega) k
  rw [HGG.out,HALL.out,HFS.out]
  omega
 obtain ⟨Q,HQ⟩:∃ Q:Ending → World → Prop,Hid (Q = fun e w' => ∃ v',e = .returned v' ∧ Own w' w.heap.size v' (nform s d m l) ∧ Below w.heap.size w w'):=⟨_,rfl⟩
 rw [← HQ.out]
 have HEND:Hid (∀ v' w' base,w.heap.size ≤ base → Own w' base v' ((sortedF fs).flatMap g ++ unkOf l all) → Below w.heap.size w w' → Q (.returned v') w'):=by
  intro v' w' base h0 h1 h2
  rw [HQ.out]
  exact ⟨v',rfl,by rw [HNF.out];exact h1.mono h0,h2⟩
 have HC01:=hid (And.intro c0 c1)
 have lS:=World.block_lt_of_cell? w _ c0
 have HLS:=hid lS
 clear hrec hv hS hb hs hat hF hfl hok hvo HQ hl
 go_enter Tryz.func30,Tryz.ntmps30
 go_upto_region 2 with (go_at_call 49;refine HG.out.mono ?_;rintro e w1 ⟨r,u,es,rfl,hmi,hown,hun,hb1⟩;obtain ⟨ua,un,uc,rfl⟩:=own_form' hun)
 obtain ⟨W2,HW2⟩:∃ W,Hid (W = w1.alloc (.cells #[.map (some r),.slice ua un uc] 118)):=⟨_,rfl⟩
 obtain ⟨P,HP⟩:∃ P,Hid (P = w1.heap.size):=⟨_,rfl⟩
 rw [← HW2.out,← HP.out]
 have hb12:Below w1.heap.size w1 W2:=by rw [HW2.out];exact (Below.refl _ _).alloc (Nat.le_refl _) _
 have hkP:Blk W2 P [.map (some r),.slice ua un uc] 118:=by rw [HW2.out,HP.out];exact Blk.new w1 [.map (some r),.slice ua un uc] _
 have hb2:Below w.heap.size w W2:=hb1.trans (hb12.mono hb1.size)
 have d0:=below_keeps hb2 _ _ c0
 have d1:=below_keeps hb2 _ _ c1
 have lS2:sb < W2.heap.size:=Nat.lt_of_lt_of_le lS hb2.size
 have hrl:r < w1.heap.size:=by have:=hmi;unfold MapIs at this;exact (Array.getElem?_eq_some_iff.1 this).1
 have HMI:=hid (show MapIs W2 r intK es from (hb12.block r hrl).trans hmi)
 have HRL:Hid (r < W2.heap.size):=Nat.lt_of_lt_of_le hrl hb12.size
 have HOWN:Hid (∀ n:Int,OwnV W2 w.heap.size (atK es n) (numsOf all n)):=fun n => (hown n).below_of hb12
 have HUN:=hid (hun.below_of hb12)
 have HKP:=hid hkP
 have HB2:=hid hb2
 have hSO:=hid (schema_Sorted nm (HFT.out.below hb2) (by have:=HFL.out;omega))
 clear c0 c1 lS hmi hown hun hb1 hb12 hkP hb2 hrl
 go_upto_region 3 with fail
 go_wp2_with (go_at_call 50;refine hSO.out.mono ?_;rintro e W3 ⟨oa,oc,rfl,hord,hb3⟩;rw [sortedF_len,← HFN.out])
 have HB23:=hid hb3
 have HB3:=hid (HB2.out.trans (hb3.mono HB2.out.size))
 have HORD:=hid hord
 have hfn:fn ≤ 200:=by have:=HFL.out;have:=HFN.out;omega
 clear hb3 hord d0 d1 lS2 hSO
 go_loopw [8,25] (fun v8 v25 wr => ∃ (k:Nat) (ba:Option Addr) (bn bc:Nat),v25 = .int .i64 (k:Int) ∧ v8 = .slice ba bn bc ∧ k ≤ fn ∧ Hid (Own wr W3.heap.size (.slice ba bn bc) (((sortedF fs).take k).flatMap g) ∧ Below W3.heap.size W3 wr)) (fun _ v25 _ => fn - (intOf v25).toNat)
 case atStart => exact ⟨0,none,0,0,rfl,rfl,by omega,own_nil _ _,Below.refl _ _⟩
 case round =>
  obtain ⟨k,ba,bn,bc,rfl,rfl,hk,HI⟩:=hrel
  have hbr:Below W2.heap.size W2 wr:=HB23.out.trans (HI.out.2.mono HB23.out.size)
  have hb0:Below w.heap.size w wr:=HB2.out.trans (hbr.mono HB2.out.size)
  have hkp:=HKP.out.below hbr
  have HB0:=hid hb0
  have HBR:=hid hbr
  have p0:=hkp.cell 0 _ rfl
  have p1:=hkp.cell 1 _ rfl
  have pl:=hkp.lt
  by_cases hlt:k < fn
  ·
   obtain ⟨ord,hoi⟩:∃ x,(sortedF fs)[k]? = some x:=⟨_,List.getElem?_eq_getElem (by rw [sortedF_len,← HFN.out];exact hlt)⟩
   obtain ⟨hr0,hr1⟩:=sortedF_mem (List.mem_of_getElem? hoi)
   obtain ⟨q,rfl⟩:∃ q:Nat,ord = (q:Int):=⟨ord.toNat,by omega⟩
   have hq:q < fs.length:=by omega
   have HTK:Hid (((sortedF fs).take (k + 1)).flatMap g = ((sortedF fs).take k).flatMap g ++ g (q:Int)):=flat_take g hoi
   obtain ⟨og,rfl,hog,hrow⟩:∃ g,oa = some ⟨g,0,none⟩ ∧ W2.heap.size ≤ g ∧ IRow W3 g (sortedF fs):=by
    rcases HORD.out with h | h
    ·
     rw [h] at hoi;simp at hoi
    ·
     exact h
   have o0:wr.cell? ⟨og,k,none⟩ = some (.int .i64 (q:Int)):=by
    have h1:=hrow.cell k (by rw [sortedF_len,← HFN.out];exact hlt)
    have h2:(sortedF fs)[k]'(by rw [sortedF_len,← HFN.out];exact hlt) = (q:Int):=by
     have:=List.getElem?_eq_some_iff.1 hoi
     exact this.2
    first
     | (rw [h2] at h1;exact below_keeps HI.out.2 _ _ h1)
     | (simp only [List.getD,hoi,Option.getD] at h1;exact below_keeps HI.out.2 _ _ h1)
   obtain ⟨f,HF⟩:∃ f,Hid (f = fs.getD q .zero):=⟨_,rfl⟩
   obtain ⟨-,fa',fc',hfe,hfat⟩:=(HFT.out.below hb0).open
   rw [← HFN.out] at hfe
   have hfa:fa = fa':=by injection hfe
   subst hfa
   obtain ⟨fb,fo,hfb,hok,g0,g1,g2,g3,g4,g5⟩:=hfat q hq
   rw [← HF.out] at hok g0 g1 g2 g3 g4 g5
   subst hfb
   have hqn:q < fn:=by rw [HFN.out];exact hq
   have hixf:=index_run Tryz.underlying49 size_fld rfl q hqn (a:=some ⟨fb,fo,none⟩) (cap:=fc)
   have c0:=below_keeps hb0 _ _ HC01.out.1
   have c1:=below_keeps hb0 _ _ HC01.out.2
   have lS:=Nat.lt_of_lt_of_le HLS.out hb0.size
   obtain ⟨W4,HW4⟩:∃ W,Hid (W = wr.alloc (.cells #[.string f.name,.int .i64 f.number,.int .i64 f.kind,.bool f.rep,.bool f.packed,.int .i64 f.of] 48)):=⟨_,rfl⟩
   obtain ⟨FB,HFB⟩:∃ b,Hid (b = wr.heap.size):=⟨_,rfl⟩
   have hb4:Below wr.heap.size wr W4:=by rw [HW4.out];exact (Below.refl _ _).alloc (Nat.le_refl _) _
   have hf4:Blk W4 FB [.string f.name,.int .i64 f.number,.int .i64 f.kind,.bool f.rep,.bool f.packed,.int .i64 f.of] 48:=by rw [HW4.out,HFB.out];exact Blk.new wr [.string f.name,.int .i64 f.number,.int .i64 f.kind,.bool f.rep,.bool f.packed,.int .i64 f.of] _
   have hbr4:Below W2.heap.size W2 W4:=hbr.trans (hb4.mono hbr.size)
   have hb04:Below w.heap.size w W4:=hb0.trans (hb4.mono hb0.size)
   have hlk:=parts_lookup ((hbr4.block r HRL.out).trans HMI.out) f.number
   have hmo:=(HOWN.out f.number).below_of hbr4
   have hN:Nums (s.getD m .zero).fields:=schema_Nums HSR.out m (by rw [← HSN.out];exact hm)
   have hnv:numsOf all f.number = viewsOf all (q:Int):=by
    have h1:=nums_views hN HVO.out (fun x hx k hk => view_num (HVO.out x hx) hk) (q:=q) (by rw [← HFS.out];exact hq)
    rw [← HFS.out,← HF.out] at h1
    exact h1
   rw [hnv] at hmo
   obtain ⟨ma,mc,hform⟩:=hmo.form
   rw [hform] at hlk hmo
   obtain ⟨xs,HXS⟩:∃ xs,Hid (xs = viewsOf all (q:Int)):=⟨_,rfl⟩
   rw [← HXS.out] at hlk hmo
   obtain ⟨xn,HXN⟩:∃ n,Hid (n = xs.length):=⟨_,rfl⟩
   rw [← HXN.out] at hlk hmo
   have HGQ:Hid (g (q:Int) = nfield s d f l xs):=by rw [Hid,HGG.out,HF.out,HXS.out];rfl
   have HMO:=hid hmo
   have HO4:=hid (HI.out.1.below_of hb4)
   have HB34:Hid (Below W3.heap.size W3 W4):=HI.out.2.trans (hb4.mono HI.out.2.size)
   have HB04:=hid hb04
   have HBR4:=hid hbr4
   have HF4:=hid hf4
   have e1:=hf4.cell 1 _ rfl
   have el:=hf4.lt
   have pp0:=(hkp.below hb4).cell 0 _ rfl
   have ppl:=(hkp.below hb4).lt
   clear hrow hfat hfe hok hmo hform hN hnv hbr4 hb04 hb4 hf4 hkp hbr hb0 HI hoi hr0 hr1 p0 p1 pl
   go_upto_region 7 with fail
   rw [← HW4.out,← HFB.out]
   clear g0 g1 g2 g3 g4 g5 c0 c1 lS o0 hixf
   go_upto_region 8 with fail
   by_cases hxn:xn = 0
   ·
    have hxe:xs = []:=List.length_eq_zero_iff.1 (by have:=HXN.out;omega)
    have HGE:Hid (((sortedF fs).take (k + 1)).flatMap g = ((sortedF fs).take k).flatMap g):=by rw [Hid,HTK.out,HGQ.out,hxe,nfield_nil,List.append_nil]
    subst hxn
    clear hxe e1 el pp0 ppl hlk
    go_wp2_with fail
    go_roundw
    case rel => exact ⟨k + 1,_,_,_,by go_num,rfl,by omega,by rw [HGE.out];exact HO4.out,HB34.out⟩
    case measure => simp [intOf];omega
   ·
    have hxp:(0:Int) < (xn:Int):=by omega
    have hnf:NF s d m f l xs W3.heap.size W4 (.slice (some ⟨sb,so,none⟩) sn sc) (.slice ba bn bc) (.slice va ln vcap) (.slice ma xn mc) (((sortedF fs).take k).flatMap g):=by
     have hmL:m < s.length:=by rw [← HSN.out];exact hm
     have hqL:q < (s.getD m .zero).fields.length:=by rw [← HFS.out];exact hq
     have hof:=of_range HSR.out hmL hqL
     rw [← HFS.out,← HF.out] at hof
     have hnum:=of_decide_eq_true (schema_nums HSR.out m hmL q hqL).2
     rw [← HFS.out,← HF.out] at hnum
     have hrec:=field_recs HSR.out hmL HVV.out hqL
     rw [← HFS.out,← HF.out,← HALL.out,← HXS.out] at hrec
     have hsm:=vsum_filter (fun x => decide (x.k = (q:Int))) (vall fs l).1
     have hal:=all_vsum fs l
     have hxm:∀ x ∈ xs,x ∈ all:=fun x hx => by rw [HXS.out] at hx;exact (viewsOf_mem hx).1
     have hsx:vsum xs ≤ l.length:=by
      have e:xs = (vall fs l).1.filter fun x => decide (x.k = (q:Int)):=by rw [HXS.out,HALL.out];rfl
      rw [e];omega
     have hxl:xs.length ≤ l.length:=by
      have h1:=vall_len fs l
      have e:xs = (vall fs l).1.filter fun x => decide (x.k = (q:Int)):=by rw [HXS.out,HALL.out];rfl
      have h2:=List.length_filter_le (fun x:VW => decide (x.k = (q:Int))) (vall fs l).1
      rw [e];omega
     exact ⟨hof.1,hof.2,⟨hnum.1,hnum.2.1⟩,by rintro rfl;exact hxn HXN.out,hrec,HS.out.below HB04.out,HO4.out,HB34.out.size,HB.out.below HB04.out,views_read (own_views HMO.out) (by have:=HL.out;omega),
      fun x hx => by obtain ⟨-,f2,f3,-⟩:=(HVO.out x (hxm x hx)).facts;exact ⟨f2,f3⟩,fun x hx => all_thin fs l x (by rw [← HALL.out];exact hxm x hx),hsx,HL.out,by have:=HGL.out k;have:=HL.out;omega⟩
    have hnF:=norm_field HSR.out HRE.out hnf
    rw [show f.val = .agg #[.string f.name,.int .i64 f.number,.int .i64 f.kind,.bool f.rep,.bool f.packed,.int .i64 f.of] from rfl] at hnF
    have HNFC:=hid hnF
    have e0:=HF4.out.cell 0 _ rfl
    have e2:=HF4.out.cell 2 _ rfl
    have e3:=HF4.out.cell 3 _ rfl
    have e4:=HF4.out.cell 4 _ rfl
    have e5:=HF4.out.cell 5 _ rfl
    clear hnf hnF hxn hlk pp0 ppl
    go_wp2_with (go_at_call 51;refine HNFC.out.mono ?_;rintro e W5 ⟨v5,rfl,hO5,hb5⟩;obtain ⟨a5,n5,c5,rfl⟩:=own_form' hO5;have HO5:=hid hO5;have HB5:=hid hb5;clear hO5 hb5)
    go_roundw
    case rel => exact ⟨k + 1,_,_,_,by go_num,rfl,by omega,by rw [HTK.out,HGQ.out];exact HO5.out,HB34.out.trans (HB5.out.mono HB34.out.size)⟩
    case measure => simp [intOf];omega
  ·
   obtain rfl:k = fn:=by omega
   have hO:=HI.out.1
   rw [show (sortedF fs).take k = sortedF fs from by rw [HFN.out,← sortedF_len,List.take_length]] at hO
   have hU:=(HUN.out.below_of hbr)
   have hul:(unkOf l all).length ≤ 1073741824:=by
    have h1:=unkOf_le l all
    have h2:=all_vsum fs l
    rw [← HALL.out] at h2
    have:=HL.out
    omega
   have hol:((sortedF fs).flatMap g).length ≤ 32212254720:=by
    have:=HGL.out fs.length
    rwa [← sortedF_len,List.take_length] at this
   obtain ⟨v6,w6,hr6,hO6,hg6,-⟩:=own_append hO (hU.bytes (by omega)) (by omega) HI.out.2.size
   obtain ⟨a6,n6,c6,rfl⟩:=own_form' hO6
   have HR6:=hid hr6
   have HE:=hid (HEND.out _ w6 W3.heap.size HB3.out.size hO6 (HB3.out.trans ((HI.out.2.grown hg6 HI.out.2.size fun q e => (World.ownsRow.lt hO q e).1).mono HB3.out.size)))
   clear hO hU hul hol hr6 hO6 hg6 hkp hbr hb0 p0
   go_wp2_with (at_builtin;refine wpList_append_eq rfl _ _ _ rfl _ _ rfl rfl HR6.out ?_)
   exact HE.out
theorem norm_form {s:List Mes} (hs:sright s = true):∀ d,FormOk s d
 | 0 => norm_form_step hs 0 fun _ h => by cases h
 | d + 1 => norm_form_step hs (d + 1) fun d' h => by
  obtain rfl:d = d':=by omega
  exact norm_form hs d
end Go.Proofs.YtphkmpnahnakaaaGreat
namespace Go.Proofs.YtphkmpnahnakaaaGreat
open Go.RowKit
set_option maxRecDepth 100000 in
set_option maxHeartbeats 4000000 in
theorem norm_Form {w:World} {sv bv:Value} {s:List Mes} {l:List UInt8} (hS:SchemaAt w sv s) (hb:Bytes w bv l) (hl:l.length ≤ 1073741824) (root d:Int) (hv:(vcheck s root l d).2 = 0) :
  Calls Tryz.prog 17 #[sv,.int .i64 root,bv,.int .i64 d] w fun e w' => ∃ v',e = .returned (.tuple #[v',.int .u8 0]) ∧ Own w' w.heap.size v' (nform s d.toNat root.toNat l) ∧ Below w.heap.size w w':=by
 obtain ⟨g1,⟨g2,g3⟩,-,g4⟩:=vcheck_ok hv
 have HC:=hid (valid_Check hS hb root d)
 obtain ⟨p,HP⟩:∃ p,Hid (p = (vcheck s root l d).1):=⟨_,rfl⟩
 rw [← HP.out,hv] at HC
 obtain ⟨r,rfl⟩:∃ r:Nat,root = r:=⟨root.toNat,by omega⟩
 rw [Int.toNat_natCast] at g4 ⊢
 have HF:=hid (fun (W:World) (hW:Below w.heap.size w W) => norm_form g1 d.toNat W sv bv r l (hS.below hW) (by omega) (hb.below hW) hl g4)
 obtain ⟨-,sa,sc,rfl,-⟩:=hS.open
 obtain ⟨-,a,c,rfl,-⟩:=hb.open
 obtain ⟨sn,HSN⟩:∃ n,Hid (n = s.length):=⟨_,rfl⟩
 obtain ⟨n,HN⟩:∃ n,Hid (n = l.length):=⟨_,rfl⟩
 rw [← HSN.out,← HN.out] at HC HF ⊢
 clear hS hb hl hv g1 g2 g3 g4
 obtain ⟨Q,HQ⟩:∃ Q:Ending → World → Prop,Hid (Q = fun e w' => ∃ v',e = .returned (.tuple #[v',.int .u8 0]) ∧ Own w' w.heap.size v' (nform s d.toNat r l) ∧ Below w.heap.size w w'):=⟨_,rfl⟩
 rw [← HQ.out]
 go_enter Tryz.func17,Tryz.ntmps17
 go_wp2_with (first | (go_at_call 25;refine HC.out.mono ?_;rintro e w1 ⟨rfl,hb1⟩;have HB1:=hid hb1;clear hb1) | (go_at_call 30;refine (HF.out _ HB1.out).mono ?_;rintro e w2 ⟨v2,rfl,hO2,hb2⟩;obtain ⟨a2,c2,rfl⟩:=own_form hO2))
 rw [HQ.out]
 exact ⟨_,rfl,hO2.mono HB1.out.size,HB1.out.trans (hb2.mono HB1.out.size)⟩
set_option maxRecDepth 100000 in
set_option maxHeartbeats 4000000 in
theorem norm_Form_bad {w:World} {sv bv:Value} {s:List Mes} {l:List UInt8} (hS:SchemaAt w sv s) (hb:Bytes w bv l) (root d:Int) (hv:(vcheck s root l d).2 ≠ 0) :
  Calls Tryz.prog 17 #[sv,.int .i64 root,bv,.int .i64 d] w fun e w' => e = .returned (.tuple #[.slice none 0 0,.int .u8 ((vcheck s root l d).2:Nat)]) ∧ Below w.heap.size w w':=by
 have HC:=hid (valid_Check hS hb root d)
 obtain ⟨p,HP⟩:∃ p,Hid (p = (vcheck s root l d).1):=⟨_,rfl⟩
 obtain ⟨z,HZ⟩:∃ p,Hid (p = (vcheck s root l d).2):=⟨_,rfl⟩
 rw [← HP.out,← HZ.out] at HC
 rw [← HZ.out] at hv ⊢
 obtain ⟨-,sa,sc,rfl,-⟩:=hS.open
 obtain ⟨-,a,c,rfl,-⟩:=hb.open
 obtain ⟨sn,HSN⟩:∃ n,Hid (n = s.length):=⟨_,rfl⟩
 obtain ⟨n,HN⟩:∃ n,Hid (n = l.length):=⟨_,rfl⟩
 rw [← HSN.out,← HN.out] at HC ⊢
 have hzn:((z:Int) != 0) = true:=by simpa using hv
 have hzc:((z:Int) == 0) = false:=by simpa using hv
 clear hS hb hv
 obtain ⟨Q,HQ⟩:∃ Q:Ending → World → Prop,Hid (Q = fun e w' => e = .returned (.tuple #[.slice none 0 0,.int .u8 (z:Nat)]) ∧ Below w.heap.size w w'):=⟨_,rfl⟩
 rw [← HQ.out]
 have HEND:Hid (∀ w',Below w.heap.size w w' → Q (.returned (.tuple #[.slice none 0 0,.int .u8 (z:Nat)])) w'):=fun w' hb => by rw [HQ.out];exact ⟨rfl,hb⟩
 go_enter Tryz.func17,Tryz.ntmps17
 go_wp2_with fail
 refine HC.out.mono ?_
 rintro e w1 ⟨rfl,hb1⟩
 have HB1:=hid hb1
 clear hb1 HC
 go_wp2_with fail
 exact HEND.out _ HB1.out
end Go.Proofs.YtphkmpnahnakaaaGreat
namespace Go.Proofs.YtphkmpnahnakaaaGreat
open Go.RowKit
def SavPost (w:World) (s:List Mes) (root d:Int) (l:List UInt8) (z:Nat) (e:Ending) (w':World):Prop:=
 Below w.heap.size w w' ∧ (z ≠ 0 → e = .returned (.tuple #[.int .i64 0,.int .u8 (z:Nat)])) ∧ (z = 0 → e = .returned (.tuple #[.int .i64 ((l.length:Int) - (nform s d.toNat root.toNat l).length),.int .u8 0]))
set_option maxRecDepth 100000 in
set_option maxHeartbeats 4000000 in
theorem stats_Saved {w:World} {sv bv:Value} {s:List Mes} {l:List UInt8} (hS:SchemaAt w sv s) (hb:Bytes w bv l) (hl:l.length ≤ 1073741824) (root d:Int) :
  Calls Tryz.prog 7 #[sv,.int .i64 root,bv,.int .i64 d] w (SavPost w s root d l (vcheck s root l d).2):=by
 by_cases hz:(vcheck s root l d).2 = 0
 ·
  have HF:=hid (norm_Form hS hb hl root d hz)
  obtain ⟨g1,⟨g2,g3⟩,-,g4⟩:=vcheck_ok hz
  have hlen:=nform_len g1 d.toNat root.toNat l (by omega) g4 (by omega)
  obtain ⟨F,HFF⟩:∃ F,Hid (F = nform s d.toNat root.toNat l):=⟨_,rfl⟩
  rw [← HFF.out] at HF hlen
  rw [hz]
  obtain ⟨-,sa,sc,rfl,-⟩:=hS.open
  obtain ⟨-,a,c,rfl,-⟩:=hb.open
  generalize s.length = sn at *
  obtain ⟨n,HN⟩:∃ n,Hid (n = l.length):=⟨_,rfl⟩
  rw [← HN.out] at HF hl hlen ⊢
  obtain ⟨m,HM⟩:∃ m,Hid (m = F.length):=⟨_,rfl⟩
  rw [← HM.out] at hlen
  obtain ⟨Q,HQ⟩:∃ Q:Ending → World → Prop,Hid (Q = SavPost w s root d l 0):=⟨_,rfl⟩
  rw [← HQ.out]
  have HEND:Hid (∀ w',Below w.heap.size w w' → Q (.returned (.tuple #[.int .i64 ((n:Int) - m),.int .u8 0])) w'):=fun w' hb => by
   rw [HQ.out,HN.out,HM.out,HFF.out]
   exact ⟨hb,fun h => absurd rfl h,fun _ => rfl⟩
  clear hS hb hz g1 g2 g3 g4
  go_enter Tryz.func7,Tryz.ntmps7
  go_wp2_with fail
  refine HF.out.mono ?_
  rintro e w1 ⟨v1,rfl,hO,hb1⟩
  obtain ⟨a1,c1,rfl⟩:=own_form hO
  have HB1:=hid hb1
  rw [← HM.out]
  clear hb1 HF hO
  go_wp2_with fail
  exact HEND.out _ HB1.out
 ·
  have HF:=hid (norm_Form_bad hS hb root d hz)
  obtain ⟨z,HZ⟩:∃ p,Hid (p = (vcheck s root l d).2):=⟨_,rfl⟩
  rw [← HZ.out] at HF hz ⊢
  obtain ⟨-,sa,sc,rfl,-⟩:=hS.open
  obtain ⟨-,a,c,rfl,-⟩:=hb.open
  generalize s.length = sn at *
  obtain ⟨n,HN⟩:∃ n,Hid (n = l.length):=⟨_,rfl⟩
  rw [← HN.out] at HF hl ⊢
  obtain ⟨Q,HQ⟩:∃ Q:Ending → World → Prop,Hid (Q = SavPost w s root d l z):=⟨_,rfl⟩
  rw [← HQ.out]
  have HEND:Hid (∀ w',Below w.heap.size w w' → Q (.returned (.tuple #[.int .i64 0,.int .u8 (z:Nat)])) w'):=fun w' hb => by
   rw [HQ.out]
   exact ⟨hb,fun _ => rfl,fun h => absurd h hz⟩
  have hzn:((z:Int) != 0) = true:=by simpa using hz
  have hzc:((z:Int) == 0) = false:=by simpa using hz
  clear hS hb hz
  go_enter Tryz.func7,Tryz.ntmps7
  go_wp2_with fail
  refine HF.out.mono ?_
  rintro e w1 ⟨rfl,hb1⟩
  have HB1:=hid hb1
  clear hb1 HF
  go_wp2_with fail
  exact HEND.out _ HB1.out
end Go.Proofs.YtphkmpnahnakaaaGreat
namespace Go.Proofs.YtphkmpnahnakaaaGreat
open Go.RowKit
def rowK (a:ByteArray × Int × Int × Int):Value:=.agg #[.string a.1,.int .i64 a.2.1,.int .i64 a.2.2.1,.int .i64 a.2.2.2]
set_option maxRecDepth 100000 in
theorem row_equal (w:World) (a b:ByteArray × Int × Int × Int):(Op.equal 44 (rowK a) (rowK b)).run Tryz.prog w = .ok (decide (a = b)) w:=by
 obtain ⟨a1,a2,a3,a4⟩:=a
 obtain ⟨b1,b2,b3,b4⟩:=b
 have hp:Tryz.prog.stoodInHeld 44 = false:=by kernel_rfl
 simp only [rowK]
 simp [Op.equal,Op.maxDepth,go_sem,hp,toList_inj]
 by_cases h1:a1 = b1 <;> by_cases h2:a2 = b2 <;> by_cases h3:a3 = b3 <;> by_cases h4:a4 = b4 <;> simp [h1,h2,h3,h4]
theorem row_eql (p:ByteArray) (x y z:Int) (w:World):(binOp .eql 44 (.agg #[.string p,.int .i64 x,.int .i64 y,.int .i64 z]) (.agg #[.string p,.int .i64 x,.int .i64 y,.int .i64 z])).run Tryz.prog w = .ok (.bool true) w:=by
 have h:=row_equal w (p,x,y,z) (p,x,y,z)
 simp only [rowK,decide_true] at h
 simp [binOp,h,Result.andThen]
end Go.Proofs.YtphkmpnahnakaaaGreat
namespace Go.Proofs.YtphkmpnahnakaaaGreat
open Go.RowKit
/-! Literals: a block as a slice. -/
theorem fields_blk {w:World} {g:Nat} {fs:List Fld} {T:TypeId} (h:Blk w g (fs.flatMap Fld.cells) T) (n:Nat) (hl:n = fs.length) (hn:n ≤ 140737488355328) (hok:∀ f ∈ fs,f.Ok):FieldsAt w (.slice (some ⟨g,0,none⟩) n n) fs:=by
 subst hl
 refine ⟨seg_blk h 6 _ ?_ hn,hok⟩
 clear h hok hn
 induction fs with
 | nil => rfl
 | cons f r ih => rw [List.flatMap_cons,List.length_append,ih,List.length_cons,Nat.succ_mul];show 6 + _ = _;omega
theorem schema_one {w:World} {g:Nat} {name:ByteArray} {fs:List Fld} {fv:Value} {T:TypeId} (h:Blk w g [.string name,fv] T) (hn:name.size ≤ 140737488355328) (hf:FieldsAt w fv fs):SchemaAt w (.slice (some ⟨g,0,none⟩) 1 1) [⟨name,fs⟩]:=by
 refine ⟨[fv],rfl,seg_blk h 2 1 rfl (by omega),by simpa using hn,fun i hi => ?_⟩
 have:i = 0:=by simp at hi;omega
 subst this
 exact hf
end Go.Proofs.YtphkmpnahnakaaaGreat
namespace Go.Proofs.YtphkmpnahnakaaaGreat
open Go.RowKit
def s28:List Mes:=[⟨⟨#[109]⟩,[⟨⟨#[97]⟩,1,3,false,false,0⟩]⟩]
def p28:ByteArray:=⟨#[97]⟩
theorem size_srow (w:World):(sizeOf 44).run Tryz.prog w = .ok 4 w:=by kernel_rfl
theorem keys_one {t:List SE} {ks:List ByteArray} {p:ByteArray} (h:KeysOf t ks) (h1:∀ e ∈ t,e.path = p) (h2:∃ e,e ∈ t):ks = [p]:=by
 have hp:p ∈ ks:=(h.mem p).2 (by obtain ⟨e,he⟩:=h2;exact ⟨e,he,h1 e he⟩)
 have hall:∀ q ∈ ks,q = p:=fun q hq => by
  obtain ⟨e,he,h3⟩:=(h.mem q).1 hq
  rw [← h3,h1 e he]
 match ks,h.nd,hp,hall with
 | [q],_,_,hall => rw [hall q (by simp)]
 | q :: q' :: r,hn,_,hall =>
  rw [List.nodup_cons] at hn
  exact absurd (by rw [hall q (by simp),hall q' (by simp)];simp) hn.1
theorem rowsOwn_at {w:World} {v:Value} {base:Nat} {l:List SR} (h:RowsOwn srP 44 4 0 base w v l) (hl:l.length ≤ 140737488355328):∃ a cap,v = .slice a l.length cap ∧ ∀ i x,l[i]? = some x → ∃ b o,a = some ⟨b,o,none⟩ ∧
  w.cell? ⟨b,o + i * 4,none⟩ = some (.string x.path) ∧ w.cell? ⟨b,o + i * 4 + 1,none⟩ = some (.int .i64 (x.recs:Int)) ∧ w.cell? ⟨b,o + i * 4 + 2,none⟩ = some (.int .i64 (x.bytes:Int)) ∧ w.cell? ⟨b,o + i * 4 + 3,none⟩ = some (.int .i64 (x.vals:Int)):=by
 obtain ⟨-,a,cap,hv,-,hat⟩:=RowsAt.open (by decide) (h.at hl (w':=w) fun _ _ _ => rfl)
 refine ⟨a,cap,hv,fun i x hi => ?_⟩
 obtain ⟨b,o,r,ha,-,hc,hr⟩:=hat i x hi
 unfold srP at hr
 subst hr
 exact ⟨b,o,ha,hc 0 _ rfl,hc 1 _ rfl,hc 2 _ rfl,hc 3 _ rfl⟩
set_option maxRecDepth 100000 in
set_option maxHeartbeats 8000000 in
theorem law28_alive (w:World):Calls Tryz.prog 4 #[] w fun e w' => e = .returned (.bool true) ∧ Below w.heap.size w w':=by
 have HC:Hid ((vcheck s28 0 [8,1,8,2] 0).2 = 0 ∧ ((evsub s28 1 0 [8,1,8,2] emptyS).map fun e => (e.path.data.toList,e.bytes,e.vals)) = [([97],2,1),([97],2,1)]):=⟨by decide +kernel,by decide +kernel⟩
 have HT:Hid (evsub s28 1 0 [8,1,8,2] emptyS = [⟨p28,2,1⟩,⟨p28,2,1⟩]):=by
  have h:=HC.out.2
  obtain ⟨⟨q,b1,v1⟩,l1,e1,h1,h2⟩:=List.map_eq_cons_iff.1 h
  obtain ⟨⟨q',b2,v2⟩,l2,e2,h3,h4⟩:=List.map_eq_cons_iff.1 h2
  rw [List.map_eq_nil_iff] at h4
  simp only [Prod.mk.injEq] at h1 h3
  obtain ⟨g1,rfl,rfl⟩:=h1
  obtain ⟨g2,rfl,rfl⟩:=h3
  have e3:q = p28:=by cases q;unfold p28;congr 1;exact Array.toList_inj.1 g1
  have e4:q' = p28:=by cases q';unfold p28;congr 1;exact Array.toList_inj.1 g2
  rw [Hid,e1,e2,h4,e3,e4]
 obtain ⟨B,HB⟩:∃ B,Hid (B = w.heap.size):=⟨_,rfl⟩
 obtain ⟨W1,HW1⟩:∃ W1,Hid (W1 = (w.alloc (.cells #[.string ⟨#[97]⟩,.int .i64 1,.int .i64 3,.bool false,.bool false,.int .i64 0] 48)).alloc (.cells #[.string ⟨#[109]⟩,.slice (some ⟨B,0,none⟩) 1 1] 51)):=⟨_,rfl⟩
 obtain ⟨W2,HW2⟩:∃ W2,Hid (W2 = W1.alloc (.cells #[.int .u8 8,.int .u8 1,.int .u8 8,.int .u8 2] 5)):=⟨_,rfl⟩
 have hb1:Below w.heap.size w W1:=by rw [HW1.out];exact ((Below.refl _ _).alloc (Nat.le_refl _) _).alloc (by simp) _
 have hz1:W1.heap.size = B + 1 + 1:=by rw [HW1.out,HB.out];simp
 have hb2:Below W1.heap.size W1 W2:=by rw [HW2.out];exact (Below.refl _ _).alloc (Nat.le_refl _) _
 have hk0:Blk W1 B [.string ⟨#[97]⟩,.int .i64 1,.int .i64 3,.bool false,.bool false,.int .i64 0] 48:=by
  rw [HW1.out,HB.out]
  exact (Blk.new w [.string ⟨#[97]⟩,.int .i64 1,.int .i64 3,.bool false,.bool false,.int .i64 0] _).alloc _
 have hk1:Blk W1 (B + 1) [.string ⟨#[109]⟩,.slice (some ⟨B,0,none⟩) 1 1] 51:=by
  rw [HW1.out]
  exact Blk.new' _ [.string ⟨#[109]⟩,.slice (some ⟨B,0,none⟩) 1 1] _ _ (by rw [World.size_alloc,HB.out])
 have hS:SchemaAt W1 (.slice (some ⟨B + 1,0,none⟩) 1 1) s28:=schema_one hk1 (by decide) (fields_blk (fs:=[⟨⟨#[97]⟩,1,3,false,false,0⟩]) hk0 1 rfl (by omega) (by simp;exact ⟨by decide,by decide,by decide,by decide⟩))
 have hby:Bytes W2 (.slice (some ⟨B + 1 + 1,0,none⟩) 4 4) [8,1,8,2]:=by
  rw [← hz1,HW2.out]
  exact bytes_new W1 5 #[.int .u8 8,.int .u8 1,.int .u8 8,.int .u8 2] [8,1,8,2] rfl (by simp)
 have HM:=hid (stats_Of (hS.below hb2) hby (by simp) 0 0)
 unfold OfPost at HM
 rw [HC.out.1] at HM
 have HB2:=hid (hb1.trans (hb2.mono hb1.size))
 obtain ⟨Q,HQ⟩:∃ Q:Ending → World → Prop,Hid (Q = fun e w' => e = .returned (.bool true) ∧ Below w.heap.size w w'):=⟨_,rfl⟩
 rw [← HQ.out]
 have HZ1:=hid hz1
 clear hb1 hb2 hk0 hk1 hS hby hz1
 go_enter Tryz.func4,Tryz.ntmps4
 go_upto_region 2 with fail
 rw [← HB.out,← HW1.out]
 have hz1:=HZ1.out
 go_wp2_with fail
 rw [← HW2.out]
 refine HM.out.mono ?_
 rintro e w3 ⟨hb3,-,h1⟩
 obtain ⟨v,ss,base,rfl,hK,-,hO⟩:=h1 (by first | rfl | trivial)
 have hT:evsub s28 ((0:Int).toNat + 1) 0 [8,1,8,2] emptyS = [⟨p28,2,1⟩,⟨p28,2,1⟩]:=HT.out
 rw [hT] at hK hO
 have hks:=keys_one hK (p:=p28) (by intro e he;simp at he;rw [he]) ⟨⟨p28,2,1⟩,by simp⟩
 rw [hks] at hO
 have hrows:rowsS [⟨p28,2,1⟩,⟨p28,2,1⟩] [p28] ([8,1,8,2]:List UInt8).length = [⟨emptyS,2,4,4⟩,⟨p28,2,4,2⟩]:=by
  simp [rowsS,rowS,cntE,bytE,valE]
 rw [hrows] at hO
 obtain ⟨a,cap,rfl,hat⟩:=rowsOwn_at hO (by simp)
 obtain ⟨b,o,rfl,c0,c1,c2,c3⟩:=hat 1 _ rfl
 simp only [List.length_cons,List.length_nil,Nat.zero_add,Nat.reduceAdd] at *
 have hix:=index_run Tryz.underlying27 size_srow (rfl:some (⟨b,o,none⟩:Addr) = some ⟨b,o,none⟩) 1 (by decide:1 < 2) (cap:=cap)
 have hl:=World.block_lt_of_cell? w3 _ c0
 have heq:=row_eql p28 2 4 2
 have HE:Hid (Q (.returned (.bool true)) w3):=by rw [HQ.out];exact ⟨rfl,HB2.out.trans (hb3.mono HB2.out.size)⟩
 unfold p28 at c0 heq
 clear hb3 hK hO hT hks hrows hat HM HC HT h1
 go_wp2_with fail
 exact HE.out
end Go.Proofs.YtphkmpnahnakaaaGreat
namespace Go.Proofs.YtphkmpnahnakaaaGreat
open Go.RowKit
end Go.Proofs.YtphkmpnahnakaaaGreat
