/- Parts of a proof: texts of the author, merged. No condition of their own. -/
import Derived.Test.YtdpnmdkbdibkpaaGreatDoorZ15
import Derived.Test.YtdpnmdkbdibkpaaGreatDoorZ20
import Derived.Test.YtdpnmdkbdibkpaaGreatDoorZ21
namespace Go.Proofs.YtdpnmdkbdibkpaaGreatDoor
set_option maxRecDepth 100000
set_option maxHeartbeats 16000000
section
open Go.RowKit
end
section
open Go.RowKit
end
section
open Go.RowKit
end
section
open Go.RowKit
theorem zpf {s:List Mes}(hs:zaC s=true){m:Nat}(hm:m<s.length){q:Nat}(hq:q<(s.getD m .zero).fields.length) :
  0≤((s.getD m .zero).fields.getD q .zero).of∧((s.getD m .zero).fields.getD q .zero).of<s.length:=by
 obtain⟨-,h1,h2,-⟩:=zeb hs m hm _ (zlm (s.getD m .zero).fields .zero hq)
 by_cases h17:((s.getD m .zero).fields.getD q .zero).kind=17
 ·
  exact h1 h17
 ·
  have:=h2 h17
  have:=(zl3 hs).1
  omega
end
section
open Go.RowKit
end
section
open Go.RowKit
end
section
open Go.RowKit
def zfE (s:List Mes)(d:Nat):Prop:=∀ (w:World) (root:Int) (v sv:Value) (x:M d),zaj w sv s→zac d w v x→mwt d x≤1099511627776 →
 Calls Tryz.prog 58 #[sv,.int .i64 root,v] w fun e w'=>e= .returned (.bool (zae s d root x))∧Below w.heap.size w w'
def zpE (s:List Mes)(d:Nat):Prop:=∀ (w:World) (f:Fld) (v sv:Value) (x:Val (M d)),zaj w sv s→zat (zac d) w v x→vwt (mwt d) x≤1099511627776 →
 Calls Tryz.prog 26 #[f.val,sv,v] w fun e w'=>e= .returned (.bool (zbp (zae s d) f x))∧Below w.heap.size w w'
theorem zkU {w:World}{q:Nat}{k:Int}(hq:w.cell? ⟨q,2,none⟩=some (.int .i64 k))(hk:zaw k=true)(x:Nat)(hx:x<2 ^ 64) :
  Calls Tryz.prog 54 #[.int .u64 x,.pointer (some ⟨q,0,none⟩)] w fun e w'=>e= .returned (.bool (!decide (zaB k x=x)))∧Below w.heap.size w w':=by
 have HK:=hid hk
 obtain⟨y,HY⟩:∃ y,Hid (y=zaB k x):=⟨_,rfl⟩
 have hy64:=znM k hx
 rw[←HY.out] at hy64 ⊢
 have hql:q<w.heap.size:=World.block_lt_of_cell? w _ hq
 have HX:=hid hx
 have HY64:=hid hy64
 clear hk hx hy64
 go_enter Tryz.func54,Tryz.ntmps54
 go_wp2_with (go_at_call 55;refine (zmi HK.out _ _).mono ?_;rintro e w1 ⟨rfl,hb1⟩;rw[←HY.out])
 go_ret
 refine⟨zcG ?_,hb1⟩
 show Value.bool ((y:Int) != x)=Value.bool (!decide (y=x))
 congr 1
 rw[Bool.eq_iff_iff]
 simp
 omega
theorem zkV (t:List UInt8)(ht:t.length≤140737488355328)(w:World) :
  Calls Tryz.prog 60 #[zbA t] w fun e w'=>e= .returned (.bool (!decide (zbf t=t.length)))∧Below w.heap.size w w':=by
 obtain⟨g,c,w2,hcv,hb2,hby⟩:=zfh w t ht
 have hST:zbA t= .string ⟨t.toArray⟩:=rfl
 rw[hST]
 have HBY:=hid hby
 have HB2:=hid hb2
 clear hST hby hb2 ht
 go_enter Tryz.func60,Tryz.ntmps60
 go_wp2_with (go_at_call 61;refine (znm HBY.out).mono ?_;rintro e w3 ⟨rfl,hb3⟩)
 go_ret
 exact⟨rfl,by rw[←hb3];exact HB2.out⟩
theorem zkW {s:List Mes}{d:Nat}(ih:zfE s d){w:World}{p q:Nat}{sv:Value}{of:Int}(hp:w.cell? ⟨p,0,none⟩=some sv)(hq:w.cell? ⟨q,5,none⟩=some (.int .i64 of))(hS:zaj w sv s)
  {v:Value} {x:M d} (hx:zac d w v x) (hw:mwt d x≤1099511627776) :
  Calls Tryz.prog 57 #[v,.pointer (some ⟨p,0,none⟩),.pointer (some ⟨q,0,none⟩)] w fun e w'=>e= .returned (.bool (!zae s d of x))∧Below w.heap.size w w':=by
 obtain⟨y,HY⟩:∃ y,Hid (zae s d of x=y):=⟨_,rfl⟩
 rw[HY.out]
 have HX:=hid hx
 have HS:=hid hS
 have HW:=hid hw
 unfold zfE at ih
 have HIH:=hid ih
 obtain⟨-,sa,sc,rfl,-⟩:=hS.open
 obtain⟨a1,n1,c1,a2,n2,c2,rfl⟩:=hx.form
 have hpl:p<w.heap.size:=World.block_lt_of_cell? w _ hp
 have hql:q<w.heap.size:=World.block_lt_of_cell? w _ hq
 clear ih hx hS hw
 go_enter Tryz.func57,Tryz.ntmps57
 go_wp2_with fail
 have hB1:Below w.heap.size w (w.alloc (.cells #[.slice a1 n1 c1,.slice a2 n2 c2] 27)):=(Below.refl _ _).alloc (Nat.le_refl _) _
 refine (HIH.out _ _ _ _ x (HS.out.below hB1) (HX.out.below hB1) HW.out).mono ?_
 rintro e w2 ⟨rfl,hb2⟩
 rw[HY.out]
 go_wp2_with fail
 go_ret
 exact⟨rfl,hB1.trans (hb2.mono hB1.size)⟩
theorem zn5 (w:World)(c1 c2 c3:List Value)(T1 T2 T3:TypeId):∀ W,W=((w.alloc (.cells c1.toArray T1)).alloc (.cells c2.toArray T2)).alloc (.cells c3.toArray T3) →
  Blk W w.heap.size c1 T1∧Blk W (w.heap.size+1) c2 T2∧Blk W (w.heap.size+1+1) c3 T3∧W.heap.size=w.heap.size+1+1+1∧Below w.heap.size w W:=by
 rintro W rfl
 exact zjK w c1 c2 c3 T1 T2 T3
theorem zj7 {s:List Mes}{d:Nat}(ih:zfE s d):zpE s d:=by
 intro w f v sv x hS h hw
 obtain⟨name,number,kind,rep,packed,of⟩:=f
 obtain⟨wv,tv,sv',rfl,hnum,hW,hT,hSu⟩:=h
 obtain⟨y,HY⟩:∃ y,Hid (y=zbp (zae s d) ⟨name,number,kind,rep,packed,of⟩ x):=⟨_,rfl⟩
 rw[←HY.out]
 have H3:=hid (zn5 w [.string name,.int .i64 number,.int .i64 kind,.bool rep,.bool packed,.int .i64 of] [sv] [.int .i64 x.num,wv,tv,sv'] 51 23 32)
 have HS:=hid hS
 have HWD:=hid hW
 have HTX:=hid hT
 have HSU:=hid hSu
 have HWT:Hid (∀ z∈x.subs,mwt d z≤1099511627776):=fun z hz=>by
  have h1:=zau (mwt d) x.subs z hz
  unfold vwt at hw
  omega
 have HIH:=hid ih
 obtain⟨hwl,wa,wc,rfl,-,-⟩:=hW.open
 obtain⟨htl,ta,tc,rfl,-,-⟩:=hT.open
 obtain⟨hsl,sa,sc,rfl,-,-⟩:=hSu.open
 obtain⟨hscl,ssa,ssc,rfl,-⟩:=hS.open
 obtain⟨wn,HWN⟩:∃ n,Hid (n=x.words.length):=⟨_,rfl⟩
 obtain⟨tn,HTN⟩:∃ n,Hid (n=x.texts.length):=⟨_,rfl⟩
 obtain⟨sn,HSN⟩:∃ n,Hid (n=x.subs.length):=⟨_,rfl⟩
 rw[←HWN.out] at H3 HWD hwl ⊢
 rw[←HTN.out] at H3 HTX htl ⊢
 rw[←HSN.out] at H3 HSU hsl ⊢
 have HYE:Hid (y=if wn+tn+sn=0∨1<wn+tn+sn∧rep=false then false
  else if zaw kind=true then decide (tn=0∧sn=0)&&x.words.all fun w=>decide (zaB kind w=w)
  else if kind=17 then decide (wn=0∧tn=0)&&x.subs.all (zae s d of)
  else if kind=15 then decide (wn=0∧sn=0)&&x.texts.all fun t=>decide (zbf t=t.length)
  else decide (kind=16)&&decide (wn=0∧sn=0)):=by
   rw[Hid,HY.out,HWN.out,HTN.out,HSN.out];rfl
 generalize x.num=num at *
 simp only[Fld.val]
 clear ih hW hT hSu hS hw HY
 by_cases h0:wn+tn+sn=0
 ·
  have HF:Hid (y=false):=by rw[Hid,HYE.out,if_pos (.inl h0)]
  have h3:=H3.out _ rfl
  clear HYE
  go_enter Tryz.func26,Tryz.ntmps26
  go_wp2_with fail
  go_ret
  exact⟨by rw[HF.out];rfl,h3.2.2.2.2⟩
 by_cases h1:1<wn+tn+sn∧rep=false
 ·
  have HF:Hid (y=false):=by rw[Hid,HYE.out,if_pos (.inr h1)]
  have h3:=H3.out _ rfl
  obtain⟨h1,rfl⟩:=h1
  clear HYE
  go_enter Tryz.func26,Tryz.ntmps26
  go_wp2_with fail
  go_ret
  exact⟨by rw[HF.out];rfl,h3.2.2.2.2⟩
 have HYE2:Hid (y=if zaw kind=true then decide (tn=0∧sn=0)&&x.words.all fun w=>decide (zaB kind w=w)
  else if kind=17 then decide (wn=0∧tn=0)&&x.subs.all (zae s d of)
  else if kind=15 then decide (wn=0∧sn=0)&&x.texts.all fun t=>decide (zbf t=t.length)
  else decide (kind=16)&&decide (wn=0∧sn=0)):=by
   rw[Hid,HYE.out,if_neg]
   rintro (h|h)
   ·
    exact h0 h
   ·
    exact h1 h
 have hr1:wn+tn+sn=1∨(1<wn+tn+sn∧rep=true):=by
  by_cases h:1<wn+tn+sn
  ·
   refine .inr ⟨h,?_⟩
   cases rep
   ·
    exact absurd ⟨h,rfl⟩ h1
   ·
    rfl
  ·
   exact .inl (by omega)
 clear HYE h1
 have HALL:Hid (∀ {α:Type} (l:List α) (p:α→Bool),(!l.any fun a=> !p a)=l.all p):=fun l p=>by rw[List.all_eq_not_any_not]
 rcases hr1 with hr1|⟨hr1,rfl⟩
 all_goals
  go_enter Tryz.func26,Tryz.ntmps26
  go_wp2_with fail
  have h3:=H3.out _ rfl
  clear H3
  obtain⟨hk1,hk2,hk3,-,hb1⟩:=h3
  refine (zbF kind _).mono ?_
  rintro e w2 ⟨rfl,hb2⟩
  have HK1:=hid (hk1.below hb2)
  have HK2:=hid (hk2.below hb2)
  have HK3:=hid (hk3.below hb2)
  have HB2:=hid (hb1.trans (hb2.mono hb1.size))
  clear hk1 hk2 hk3 hb1 hb2
  have l1:=HK1.out.lt
  have l2:=HK2.out.lt
  have l3:=HK3.out.lt
  have f2:=HK1.out.cell 2 _ rfl
  have f5:=HK1.out.cell 5 _ rfl
  have v1:=HK3.out.cell 1 _ rfl
  have v2:=HK3.out.cell 2 _ rfl
  have v3:=HK3.out.cell 3 _ rfl
  have g0:=HK2.out.cell 0 _ rfl
  by_cases hk:zaw kind=true
  ·
   have HKN:=hid hk
   rw[hk]
   by_cases hz:tn=0∧sn=0
   ·
    have HF:Hid (y=x.words.all fun w=>decide (zaB kind w=w)):=by rw[Hid,HYE2.out,if_pos hk,decide_eq_true hz];rfl
    clear HYE2 hk
    go_wp2_with fail
    refine (zf9 (HWD.out.keep (zaa HB2.out)) 54 _ (fun w=> !decide (zaB kind w=w)) (fun args w=>by simp[go_sem]) ?_).mono ?_
    ·
     exact fun z _ wr hz hb=>zkU (zaa hb _ _ f2) HKN.out z hz
    ·
     rintro e w3 ⟨rfl,hb3⟩
     go_wp2_with fail
     go_ret
     exact⟨by rw[HF.out,←HALL.out];rfl,HB2.out.trans (hb3.mono HB2.out.size)⟩
   ·
    have HF:Hid (y=false):=by rw[Hid,HYE2.out,if_pos hk,decide_eq_false hz];rfl
    clear HYE2 hk
    go_wp2_with fail
    go_ret
    exact⟨by rw[HF.out];rfl,HB2.out⟩
  ·
   have HYE3:Hid (y=if kind=17 then decide (wn=0∧tn=0)&&x.subs.all (zae s d of)
     else if kind=15 then decide (wn=0∧sn=0)&&x.texts.all fun t=>decide (zbf t=t.length)
     else decide (kind=16)&&decide (wn=0∧sn=0)):=by rw[Hid,HYE2.out,if_neg hk]
   have hkf:zaw kind=false:=by simpa using hk
   rw[hkf]
   clear HYE2 hk hkf
   by_cases h17:kind=17
   ·
    subst h17
    by_cases hz:wn=0∧tn=0
    ·
     have HF:Hid (y=x.subs.all (zae s d of)):=by rw[Hid,HYE3.out,if_pos rfl,decide_eq_true hz];rfl
     clear HYE3
     go_wp2_with fail
     refine (zga (HSU.out.keep (zaa HB2.out) fun _ _ h=>zac.below h HB2.out) 57 _ (fun m=> !zae s d of m) (fun args w=>by simp[go_sem]) ?_).mono ?_
     ·
      exact fun z hz mv wr hm hb=>zkW HIH.out (zaa hb _ _ g0) (zaa hb _ _ f5) (HS.out.below (HB2.out.trans (hb.mono HB2.out.size))) (hm.below hb) (HWT.out z hz)
     ·
      rintro e w3 ⟨rfl,hb3⟩
      go_wp2_with fail
      go_ret
      exact⟨by rw[HF.out,←HALL.out];rfl,HB2.out.trans (hb3.mono HB2.out.size)⟩
    ·
     have HF:Hid (y=false):=by rw[Hid,HYE3.out,if_pos rfl,decide_eq_false hz];rfl
     clear HYE3
     go_wp2_with fail
     go_ret
     exact⟨by rw[HF.out];rfl,HB2.out⟩
   by_cases h15:kind=15
   ·
    subst h15
    by_cases hz:wn=0∧sn=0
    ·
     have HF:Hid (y=x.texts.all fun t=>decide (zbf t=t.length)):=by rw[Hid,HYE3.out,if_neg h17,if_pos rfl,decide_eq_true hz];rfl
     clear HYE3
     go_wp2_with fail
     refine (zd3 (HTX.out.keep (zaa HB2.out)) 60 _ (fun t=> !decide (zbf t=t.length)) (fun args w=>by simp[go_sem]) ?_).mono ?_
     ·
      exact fun z _ wr hz hb=>zkV z hz wr
     ·
      rintro e w3 ⟨rfl,hb3⟩
      go_wp2_with fail
      go_ret
      exact⟨by rw[HF.out,←HALL.out];rfl,HB2.out.trans (hb3.mono HB2.out.size)⟩
    ·
     have HF:Hid (y=false):=by rw[Hid,HYE3.out,if_neg h17,if_pos rfl,decide_eq_false hz];rfl
     clear HYE3
     go_wp2_with fail
     go_ret
     exact⟨by rw[HF.out];rfl,HB2.out⟩
   by_cases h16:kind=16
   ·
    subst h16
    by_cases hz:wn=0∧sn=0
    ·
     have HF:Hid (y=true):=by rw[Hid,HYE3.out,if_neg h17,if_neg h15,decide_eq_true hz];rfl
     clear HYE3
     go_wp2_with fail
     go_ret
     exact⟨by rw[HF.out];first|rfl|(exact zcG (congrArg Value.bool (by simp;omega))),HB2.out⟩
    ·
     have HF:Hid (y=false):=by rw[Hid,HYE3.out,if_neg h17,if_neg h15,decide_eq_false hz];rfl
     clear HYE3
     go_wp2_with fail
     go_ret
     exact⟨by rw[HF.out];first|rfl|(exact zcG (congrArg Value.bool (by simp;omega))),HB2.out⟩
   ·
    have HF:Hid (y=false):=by rw[Hid,HYE3.out,if_neg h17,if_neg h15,decide_eq_false h16];rfl
    clear HYE3
    go_wp2_with fail
    go_ret
    exact⟨by rw[HF.out];first|rfl|(exact zcG (congrArg Value.bool (by simp;omega))),HB2.out⟩
end
end Go.Proofs.YtdpnmdkbdibkpaaGreatDoor
