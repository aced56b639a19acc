/- Parts of a proof: texts of the author, merged. No condition of their own. -/
import Derived.Test.YtfimpmennkfjcaaGreatDoorZ19
import Derived.Test.YtfimpmennkfjcaaGreatDoorZ20
import Derived.Test.YtfimpmennkfjcaaGreatDoorZ21
import Derived.Test.YtfimpmennkfjcaaGreatDoorZ22
namespace Go.Proofs.YtfimpmennkfjcaaGreatDoor
open Go.RowKit
theorem rnext_cut {l:List UInt8} {i:Nat} {r:Rec} (h:rnext l i = (r,0)):∃ r':Rec,rnext (part l i r.to) 0 = (r',0) ∧ r'.number = r.number ∧ r'.wire = r.wire ∧ r'.start = 0 ∧ r'.to = (part l i r.to).length ∧ part (part l i r.to) r'.at' r'.to = part l r.at' r.to ∧ r'.at' ≤ r'.to ∧ tread (part l i r.to) = tread (l.drop i) ∧ tagN (part l i r.to) 0 = tagN l i:=by
 unfold tagN
 rcases rnext_cases l i with ⟨hi,er⟩ | ⟨hi,c,et,hc,er⟩ | ⟨hi,k,x,n,et,h1,h2,h3,h4,h5,h6,hcs⟩
 ·
  rw [er] at h;simp at h
 ·
  rw [er] at h;simp at h;omega
 ·
  rcases hcs with ⟨a,m,c,es,hc,-,-,er⟩ | ⟨a,m,es,-,-,-,-,er⟩ | ⟨a,m,es,g1,g2,g3,er⟩
  ·
   rw [er] at h;simp at h;omega
  ·
   rw [er] at h;simp at h
  ·
   rw [er] at h
   injection h with h _
   subst h
   simp only
   have hlen:(part l i (i + n + a + m)).length = n + a + m:=by rw [part_len _ _ _ (by omega) (by omega)];omega
   have e1:part l i (i + n + a + m) = (l.drop i).take (n + a + m):=by unfold part;congr 1;omega
   have et':tread (part l i (i + n + a + m)) = (k,x,n,0):=by rw [e1];exact tread_take et (by omega)
   have e2:(part l i (i + n + a + m)).drop n = (l.drop (i + n)).take (a + m):=by rw [e1,List.drop_take,List.drop_drop];congr 1;omega
   have es':rsize x ((part l i (i + n + a + m)).drop n) = (a,m,0):=by rw [e2];exact rsize_take es (by omega)
   refine ⟨⟨k,x,0,n + a,n + a + m⟩,?_,rfl,rfl,rfl,hlen.symm,?_,by simp,by rw [et',et],by rw [List.drop_zero,et',et]⟩
   ·
    unfold rnext
    rw [if_neg (by rw [hlen];omega),List.drop_zero,et']
    simp only [Nat.zero_add]
    rw [if_neg (by simp),es']
    simp only
    rw [if_neg (by simp),hlen,if_neg (by omega)]
   ·
    simp only
    rw [e1]
    unfold part
    rw [List.drop_take,List.drop_drop,List.take_take]
    congr 1
    ·
     omega
    ·
     congr 1;omega
theorem vlook_rec {fs:List Fld} {l l':List UInt8} {i i':Nat} {r r':Rec} {k:Int} {run:Bool} (h:vlook fs l i = (r,k,run,0)) (hr:rnext l i = (r,0)) (hr':rnext l' i' = (r',0)) (hn:r'.number = r.number) (hw:r'.wire = r.wire):vlook fs l' i' = (r',k,run,0):=by
 unfold vlook at h ⊢
 rw [hr] at h
 rw [hr']
 simp only at h ⊢
 rw [hn,hw]
 rw [if_neg (by simp)] at h ⊢
 by_cases h1:fieldAt fs r.number < 0
 ·
  rw [if_pos h1] at h ⊢
  simp only [Prod.mk.injEq,true_and] at h ⊢
  exact h
 rw [if_neg h1] at h ⊢
 by_cases h2:((fs.getD (fieldAt fs r.number).toNat .zero).rep && knumber (fs.getD (fieldAt fs r.number).toNat .zero).kind && decide (r.wire = 2)) = true
 ·
  rw [if_pos h2] at h ⊢
  simp only [Prod.mk.injEq,true_and] at h ⊢
  exact h
 rw [if_neg h2] at h ⊢
 by_cases h3:kright (fs.getD (fieldAt fs r.number).toNat .zero).kind = false ∨ kwire (fs.getD (fieldAt fs r.number).toNat .zero).kind ≠ r.wire
 ·
  rw [if_pos h3] at h
  simp at h
 ·
  rw [if_neg h3] at h ⊢
  simp only [Prod.mk.injEq,true_and] at h ⊢
  exact h
theorem vlook_next {fs:List Fld} {l:List UInt8} {i:Nat} {r:Rec} {k:Int} {run:Bool} (h:vlook fs l i = (r,k,run,0)):rnext l i = (r,0) ∧ r.start = i:=by
 rcases vlook_cases fs l i with ⟨c,hc',e,-⟩ | ⟨r,h1,h2,h3,h4,h5,e | ⟨k,run,hk,e,-,h6,h7⟩⟩
 ·
  rw [e] at h;injection h with e1 e2;injection e2 with e2 e3;injection e3 with e3 e4;exact absurd e4 hc'
 ·
  rw [e] at h;injection h with e1 _;subst e1;exact ⟨h5,h1⟩
 ·
  rw [e] at h;injection h with e1 _;subst e1;exact ⟨h5,h1⟩
theorem look_part {fs:List Fld} {l:List UInt8} {i:Nat} {r:Rec} {k:Int} {run:Bool} (h:vlook fs l i = (r,k,run,0)):∃ r':Rec,vlook fs (part l i r.to) 0 = (r',k,run,0) ∧ r'.start = 0 ∧ r'.to = (part l i r.to).length ∧ part (part l i r.to) r'.at' r'.to = part l r.at' r.to:=by
 obtain ⟨hr,-⟩:=vlook_next h
 obtain ⟨r',h1,h2,h3,h4,h5,h6,-⟩:=rnext_cut hr
 exact ⟨r',vlook_rec h hr h1 h2 h3,h4,h5,h6⟩
theorem arecs_look {fs:List Fld} {t:List UInt8} {r:Rec} {k:Int} {run:Bool} (h:vlook fs t 0 = (r,k,run,0)) (hto:r.to = t.length):(vall fs t).2.2 = 0 ∧ arecs fs t = [(⟨k,run,part t r.at' r.to,t⟩:AR)]:=by
 have hto':=vlook_to fs t 0 (by rw [h])
 rw [h] at hto'
 simp only at hto'
 have hst:=(vlook_next h).2
 obtain ⟨N,hN⟩:∃ N,t.length = N + 1:=⟨t.length - 1,by omega⟩
 have hva:vall fs t = ([(⟨r,k,run⟩:VW)],0,0):=by
  unfold vall
  rw [hN,vallGo_next fs _ _ _ (by omega) (by rw [h]),h]
  simp only
  rw [vallGo_end fs _ N _ (by omega),if_neg (by simp)]
 refine ⟨by rw [hva],?_⟩
 unfold arecs
 rw [hva]
 simp only [List.map_cons,List.map_nil]
 unfold arOf vbytes
 simp only
 rw [hst,show part t 0 r.to = t by rw [hto,part_all]]
theorem arecs_one {fs:List Fld} {l:List UInt8} {i:Nat} {r:Rec} {k:Int} {run:Bool} (h:vlook fs l i = (r,k,run,0)):(vall fs (part l i r.to)).2.2 = 0 ∧ arecs fs (part l i r.to) = [(⟨k,run,part l r.at' r.to,part l i r.to⟩:AR)]:=by
 obtain ⟨r',h1,h2,h3,h4⟩:=look_part h
 obtain ⟨g1,g2⟩:=arecs_look h1 h3
 rw [h4] at g2
 exact ⟨g1,g2⟩
theorem vval_part {s:List Mes} {d m:Nat} {l l':List UInt8} {r r':Rec} {k:Int} {run:Bool} (hp:part l' r'.at' r'.to = part l r.at' r.to) (h:(vval (vrec s d) (decide (d = 0)) (s.getD m .zero).fields l (r,k,run,0)).2 = 0):(vval (vrec s d) (decide (d = 0)) (s.getD m .zero).fields l' (r',k,run,0)).2 = 0:=by
 have e:=vval_code (rec:=vrec s d) (deep:=decide (d = 0)) (fs:=(s.getD m .zero).fields) (v:=(r,k,run,0)) (v':=(r',k,run,0)) rfl rfl hp
 first | (rw [e];exact h) | exact e.trans h | exact e ▸ h | (rw [← h];exact e) | exact e.2 h | exact e h
theorem vmsg_view {s:List Mes} {d m:Nat} {l:List UInt8} {x:VW} (h:ViewOk s d m l x):(vmsg s d m (part l x.r.start x.r.to)).2 = 0 ∧ (vall (s.getD m .zero).fields (part l x.r.start x.r.to)).2.2 = 0 ∧ arecs (s.getD m .zero).fields (part l x.r.start x.r.to) = [arOf l x]:=by
 obtain ⟨j,hj⟩:=h.look
 have hst:=(vlook_next hj).2
 rw [hst]
 obtain ⟨r',h1,h2,h3,h4⟩:=look_part hj
 obtain ⟨g1,g2⟩:=arecs_one hj
 refine ⟨vmsg_one h1 h3 (vval_part h4 h.right),g1,?_⟩
 rw [g2]
 unfold arOf vbytes
 rw [hst]
theorem rnext_new {t v:List UInt8} {k n:Nat} (ht:tread t = (k,2,n,0)) (hn:n = t.length) (hv:v.length < 2 ^ 64) :
  rnext (t ++ (vput v.length ++ v)) 0 = (⟨k,2,0,n + (vput v.length).length,n + (vput v.length).length + v.length⟩,0) ∧ part (t ++ (vput v.length ++ v)) (n + (vput v.length).length) (n + (vput v.length).length + v.length) = v:=by
 subst hn
 have ht0:0 < t.length:=by
  cases t with
  | nil => simp [tread,vread,vgo] at ht
  | cons c r => simp
 have htr:tread (t ++ (vput v.length ++ v)) = (k,2,t.length,0):=by rw [tread_app _ (by rw [ht]),ht]
 have hd:(t ++ (vput v.length ++ v)).drop t.length = vput v.length ++ v:=List.drop_left
 have hsz:rsize 2 (vput v.length ++ v) = ((vput v.length).length,v.length,0):=by
  unfold rsize
  rw [if_neg (by decide),if_neg (by decide),if_neg (by decide),vread_app _ (by rw [vread_vput hv]),vread_vput hv]
 refine ⟨?_,?_⟩
 ·
  unfold rnext
  rw [if_neg (by rw [List.length_append];omega),List.drop_zero,htr]
  simp only [Nat.zero_add]
  rw [if_neg (by simp),hd,hsz]
  simp only
  rw [if_neg (by simp),if_neg (by simp;omega)]
 ·
  unfold part
  rw [← List.append_assoc,Nat.add_sub_cancel_left]
  rw [show t.length + (vput v.length).length = (t ++ vput v.length).length by simp,List.drop_left,List.take_length]
theorem view_new {s:List Mes} {d m:Nat} {l:List UInt8} {x:VW} (h:ViewOk s d m l x) {k:Nat} (hk:x.k = k) (h17:((s.getD m .zero).fields.getD k .zero).kind = 17) {v:List UInt8} (hv:v.length < 2 ^ 64) :
  (vall (s.getD m .zero).fields (part l x.r.start (x.r.start + tagN l x.r.start) ++ (vput v.length ++ v))).2.2 = 0 ∧
  arecs (s.getD m .zero).fields (part l x.r.start (x.r.start + tagN l x.r.start) ++ (vput v.length ++ v)) = [(⟨k,false,v,part l x.r.start (x.r.start + tagN l x.r.start) ++ (vput v.length ++ v)⟩:AR)] ∧
  (∀ d',d = d' + 1 → (vmsg s d' ((s.getD m .zero).fields.getD k .zero).of.toNat v).2 = 0 → (vmsg s d m (part l x.r.start (x.r.start + tagN l x.r.start) ++ (vput v.length ++ v))).2 = 0):=by
 obtain ⟨j,hj⟩:=h.look
 obtain ⟨hr,hst⟩:=vlook_next hj
 rw [hst]
 obtain ⟨g1,g2,g3,g4,g5,g6,g7,g8⟩:=rec_shape hr
 have hrun:x.run = false:=by
  obtain ⟨-,-,-,f4⟩:=h.facts
  cases hx:x.run with
  | false => rfl
  | true =>
   rcases f4 with ⟨f4,f5⟩ | ⟨k',f4,f5,f6,-⟩
   ·
    rw [hx] at f5;cases f5
   ·
    have:k' = k:=by omega
    subst this
    have:=(f6 hx).2
    rw [h17] at this
    simp [knumber] at this
 have hw:x.r.wire = 2:=by
  rcases vlook_cases (s.getD m .zero).fields l j with ⟨c,hc',e,-⟩ | ⟨r,h1,h2,h3,h4,h5,e | ⟨k',run,hk',e,-,h6,h7⟩⟩
  ·
   rw [e] at hj;injection hj with e1 e2;injection e2 with e2 e3;injection e3 with e3 e4;exact absurd e4 hc'
  ·
   rw [e] at hj;injection hj with e1 e2;injection e2 with e2 e3;omega
  ·
   rw [e] at hj
   injection hj with e1 e2
   injection e2 with e2 e3
   injection e3 with e3 e4
   subst e1
   have:k' = k:=by omega
   subst this
   have:=(h7 (by rw [e3];exact hrun)).2
   rw [h17] at this
   have h17:kwire 17 = 2:=rfl
   omega
 have htl:(part l j (j + tagN l j)).length = tagN l j:=by rw [part_len _ _ _ (by omega) (by omega)];omega
 have htw:tread (l.drop j) = (x.r.number,2,tagN l j,0):=by
  unfold rnext at hr
  unfold tagN
  rw [← hw]
  generalize tread (l.drop j) = z at hr g7 ⊢
  obtain ⟨z1,z2,z3,z4⟩:=z
  simp only at g7
  subst g7
  revert hr
  split
  ·
   intro hr;simp at hr
  ·
   simp only
   rw [if_neg (by simp)]
   split
   ·
    rename_i hc;intro hr;simp at hr;exact absurd hr.2 hc
   ·
    split
    ·
     intro hr;simp at hr
    ·
     intro hr
     injection hr with hr _
     rw [← hr]
 have ht:tread (part l j (j + tagN l j)) = (x.r.number,2,tagN l j,0):=by
  unfold part
  rw [Nat.add_sub_cancel_left]
  exact tread_take htw (Nat.le_refl _)
 obtain ⟨e1,e2⟩:=rnext_new ht htl.symm hv
 rw [hk,hrun] at hj
 have hlk:=vlook_rec hj hr e1 rfl hw.symm
 have hto:tagN l j + (vput v.length).length + v.length = (part l j (j + tagN l j) ++ (vput v.length ++ v)).length:=by
  rw [List.length_append,List.length_append,htl];omega
 obtain ⟨a1,a2⟩:=arecs_look hlk hto
 simp only at a2
 rw [e2] at a2
 refine ⟨a1,a2,fun d' hd hvm => vmsg_one hlk hto ?_⟩
 subst hd
 unfold vval
 simp only
 rw [if_neg (by omega),if_neg (by simp),Int.toNat_natCast,if_neg (by rw [h17];decide),if_pos h17,if_neg (by simp),e2]
 exact hvm
end Go.Proofs.YtfimpmennkfjcaaGreatDoor
namespace Go.Proofs.YtfimpmennkfjcaaGreatDoor
open Go.RowKit
theorem any_whole {l:List (List Int)} {n:Int}:l.any (wholeW n) = true ↔ [n] ∈ l:=by
 rw [List.any_eq_true]
 refine ⟨fun ⟨w,hw,h⟩ => ?_,fun h => ⟨_,h,by simp [wholeW]⟩⟩
 have:w = [n]:=of_decide_eq_true h
 rwa [this] at hw
def tagA (w:List UInt8):List UInt8:=w.take (tread w).2.2.1
def kpR (sub:Int → List (List Int) → List UInt8 → List UInt8) (fs:List Fld) (keep:Bool) (ws:List (List Int)) (a:AR):List AR:=
 if a.k < 0 then (if keep = true then [] else [a]) else
 if ws.any (wholeW (fs.getD a.k.toNat .zero).number) = true then (if keep = true then [a] else []) else
 if underW ws (fs.getD a.k.toNat .zero).number ≠ [] ∧ (fs.getD a.k.toNat .zero).kind = 17 ∧ (fs.getD a.k.toNat .zero).rep = false then
  [⟨a.k,false,sub (fs.getD a.k.toNat .zero).of (underW ws (fs.getD a.k.toNat .zero).number) a.val,
   tagA a.whole ++ (vput (sub (fs.getD a.k.toNat .zero).of (underW ws (fs.getD a.k.toNat .zero).number) a.val).length ++ sub (fs.getD a.k.toNat .zero).of (underW ws (fs.getD a.k.toNat .zero).number) a.val)⟩]
 else if keep = true then [] else [a]
def kpA (sub:Int → List (List Int) → List UInt8 → List UInt8) (fs:List Fld) (keep:Bool) (ws:List (List Int)) (a:AR):List UInt8:=(kpR sub fs keep ws a).flatMap AR.whole
theorem tagA_view {s:List Mes} {d m:Nat} {l:List UInt8} {x:VW} (h:ViewOk s d m l x):part l x.r.start (x.r.start + tagN l x.r.start) = tagA (part l x.r.start x.r.to):=by
 obtain ⟨j,hj⟩:=h.look
 obtain ⟨hr,hst⟩:=vlook_next hj
 rw [hst]
 obtain ⟨g1,g2,g3,g4,g5,g6,g7,g8⟩:=rec_shape hr
 obtain ⟨r',-,-,-,-,-,-,-,e,-⟩:=rnext_cut hr
 unfold tagA
 rw [e]
 show _ = (part l j x.r.to).take (tagN l j)
 unfold part
 rw [List.take_take,Nat.add_sub_cancel_left,Nat.min_eq_left (by omega)]
theorem kpiece_A {sub:Int → List (List Int) → List UInt8 → List UInt8} {keep:Bool} {ws:List (List Int)} {s:List Mes} {d m:Nat} {l:List UInt8} {x:VW} (h:ViewOk s d m l x):kpiece sub (s.getD m .zero).fields keep ws l x = kpA sub (s.getD m .zero).fields keep ws (arOf l x):=by
 have ht:=tagA_view h
 obtain ⟨a,ha⟩:∃ a,a = arOf l x:=⟨_,rfl⟩
 have k1:a.k = x.k:=by rw [ha];rfl
 have k2:a.val = vbytes l x:=by rw [ha];rfl
 have k3:a.whole = part l x.r.start x.r.to:=by rw [ha];rfl
 rw [← ha]
 unfold kpiece kpA kpR
 rw [k1,k2,ht,k3]
 by_cases h1:x.k < 0
 ·
  rw [if_pos h1,if_pos h1]
  cases keep <;> simp [k3]
 rw [if_neg h1,if_neg h1]
 by_cases h2:ws.any (wholeW ((s.getD m .zero).fields.getD x.k.toNat .zero).number) = true
 ·
  rw [if_pos h2,if_pos h2]
  cases keep <;> simp [k3]
 rw [if_neg h2,if_neg h2]
 by_cases h3:underW ws ((s.getD m .zero).fields.getD x.k.toNat .zero).number ≠ [] ∧ ((s.getD m .zero).fields.getD x.k.toNat .zero).kind = 17 ∧ ((s.getD m .zero).fields.getD x.k.toNat .zero).rep = false
 ·
  rw [if_pos h3,if_pos h3]
  simp
 rw [if_neg h3,if_neg h3]
 cases keep <;> simp [k3]
theorem flatMap_same {α β:Type} {f g:α → List β} {l:List α} (h:∀ x ∈ l,f x = g x):l.flatMap f = l.flatMap g:=by
 induction l with
 | nil => rfl
 | cons x r ih => rw [List.flatMap_cons,List.flatMap_cons,h x (by simp),ih fun y hy => h y (by simp [hy])]
theorem kpart_A {s:List Mes} {keep:Bool} {d m:Nat} {ws:List (List Int)} {l:List UInt8} (h:(vmsg s d m l).2 = 0):kpart s keep d m ws l = (arecs (s.getD m .zero).fields l).flatMap (kpA (ksub s keep d) (s.getD m .zero).fields keep ws):=by
 rw [kpart_eq]
 unfold arecs
 rw [List.flatMap_map]
 exact flatMap_same fun x hx => kpiece_A ((vall_ok h).2 x hx)
theorem kpR_recs {s:List Mes} {keep:Bool} {d m:Nat} {ws:List (List Int)} {l:List UInt8} {x:VW} (h:ViewOk s d m l x) (hl:l.length < 2 ^ 64)
  (hsub:∀ (d' k:Nat) (u:List (List Int)),d = d' + 1 → x.k = k → ((s.getD m .zero).fields.getD k .zero).kind = 17 → (vmsg s d' ((s.getD m .zero).fields.getD k .zero).of.toNat (kpart s keep d' ((s.getD m .zero).fields.getD k .zero).of.toNat u (vbytes l x))).2 = 0) :
  (vmsg s d m (kpA (ksub s keep d) (s.getD m .zero).fields keep ws (arOf l x))).2 = 0 ∧ (vall (s.getD m .zero).fields (kpA (ksub s keep d) (s.getD m .zero).fields keep ws (arOf l x))).2.2 = 0 ∧
   arecs (s.getD m .zero).fields (kpA (ksub s keep d) (s.getD m .zero).fields keep ws (arOf l x)) = kpR (ksub s keep d) (s.getD m .zero).fields keep ws (arOf l x):=by
 obtain ⟨v1,v2,v3⟩:=vmsg_view h
 have hnil:(vmsg s d m []).2 = 0 ∧ (vall (s.getD m .zero).fields []).2.2 = 0 ∧ arecs (s.getD m .zero).fields [] = []:=⟨vmsg_nil s d m,(arecs_nil _).1,(arecs_nil _).2⟩
 have hone:(vmsg s d m ([arOf l x].flatMap AR.whole)).2 = 0 ∧ (vall (s.getD m .zero).fields ([arOf l x].flatMap AR.whole)).2.2 = 0 ∧ arecs (s.getD m .zero).fields ([arOf l x].flatMap AR.whole) = [arOf l x]:=by
  have e:[arOf l x].flatMap AR.whole = part l x.r.start x.r.to:=by simp [arOf]
  rw [e]
  exact ⟨v1,v2,v3⟩
 unfold kpA
 rw [show kpR (ksub s keep d) (s.getD m .zero).fields keep ws (arOf l x) = kpR (ksub s keep d) (s.getD m .zero).fields keep ws (arOf l x) from rfl]
 unfold kpR
 by_cases h1:(arOf l x).k < 0
 ·
  rw [if_pos h1]
  cases keep
  ·
   exact hone
  ·
   exact hnil
 rw [if_neg h1]
 by_cases h2:ws.any (wholeW ((s.getD m .zero).fields.getD (arOf l x).k.toNat .zero).number) = true
 ·
  rw [if_pos h2]
  cases keep
  ·
   exact hnil
  ·
   exact hone
 rw [if_neg h2]
 by_cases h3:underW ws ((s.getD m .zero).fields.getD (arOf l x).k.toNat .zero).number ≠ [] ∧ ((s.getD m .zero).fields.getD (arOf l x).k.toNat .zero).kind = 17 ∧ ((s.getD m .zero).fields.getD (arOf l x).k.toNat .zero).rep = false
 ·
  rw [if_pos h3]
  obtain ⟨k,hk⟩:∃ k:Nat,x.k = k:=⟨x.k.toNat,by have:¬ x.k < 0:=h1;omega⟩
  have hk':(arOf l x).k = k:=hk
  rw [hk',Int.toNat_natCast] at h3 ⊢
  obtain ⟨d',rfl,hvm⟩:=h.sub hk h3.2.1
  have hv:=hsub d' k (underW ws ((s.getD m .zero).fields.getD k .zero).number) rfl hk h3.2.1
  have hle:=kpart_le (keep:=keep) (ws:=underW ws ((s.getD m .zero).fields.getD k .zero).number) hvm
  have hvl:(vbytes l x).length ≤ l.length:=by unfold vbytes part;simp;omega
  have e:(ksub s keep (d' + 1)) ((s.getD m .zero).fields.getD k .zero).of (underW ws ((s.getD m .zero).fields.getD k .zero).number) (arOf l x).val = kpart s keep d' ((s.getD m .zero).fields.getD k .zero).of.toNat (underW ws ((s.getD m .zero).fields.getD k .zero).number) (vbytes l x):=rfl
  rw [e]
  generalize kpart s keep d' ((s.getD m .zero).fields.getD k .zero).of.toNat (underW ws ((s.getD m .zero).fields.getD k .zero).number) (vbytes l x) = v at *
  obtain ⟨a1,a2,a3⟩:=view_new h hk h3.2.1 (v:=v) (by omega)
  rw [tagA_view h] at a1 a2 a3
  have e2:([(⟨(k:Int),false,v,tagA (arOf l x).whole ++ (vput v.length ++ v)⟩:AR)]).flatMap AR.whole = tagA (part l x.r.start x.r.to) ++ (vput v.length ++ v):=by simp [arOf]
  rw [e2]
  exact ⟨a3 d' rfl hv,a1,a2⟩
 rw [if_neg h3]
 cases keep
 ·
  exact hone
 ·
  exact hnil
theorem flatten_map {α β:Type} (f:α → List β) (l:List α):l.flatMap f = (l.map f).flatten:=by
 induction l with
 | nil => rfl
 | cons x r ih => rw [List.flatMap_cons,List.map_cons,List.flatten_cons,ih]
theorem kpart_both_facts {s:List Mes} {keep:Bool}:∀ {d m:Nat} {ws:List (List Int)} {l:List UInt8},(vmsg s d m l).2 = 0 → l.length < 2 ^ 64 →
  (vmsg s d m (kpart s keep d m ws l)).2 = 0 ∧ arecs (s.getD m .zero).fields (kpart s keep d m ws l) = (arecs (s.getD m .zero).fields l).flatMap (kpR (ksub s keep d) (s.getD m .zero).fields keep ws)
 | d,m,ws,l,h,hl => by
  have key:∀ x ∈ (vall (s.getD m .zero).fields l).1,(vmsg s d m (kpA (ksub s keep d) (s.getD m .zero).fields keep ws (arOf l x))).2 = 0 ∧ (vall (s.getD m .zero).fields (kpA (ksub s keep d) (s.getD m .zero).fields keep ws (arOf l x))).2.2 = 0 ∧
   arecs (s.getD m .zero).fields (kpA (ksub s keep d) (s.getD m .zero).fields keep ws (arOf l x)) = kpR (ksub s keep d) (s.getD m .zero).fields keep ws (arOf l x):=fun x hx =>
   kpR_recs ((vall_ok h).2 x hx) hl fun d' k u hd hk h17 => by
    subst hd
    obtain ⟨d'',e,hvm⟩:=((vall_ok h).2 x hx).sub hk h17
    have e':d' = d'':=by omega
    subst e'
    have hvl:(vbytes l x).length ≤ l.length:=by unfold vbytes part;simp;omega
    exact (kpart_both_facts hvm (by omega)).1
  rw [kpart_A h,flatten_map]
  have e:(arecs (s.getD m .zero).fields l).map (kpA (ksub s keep d) (s.getD m .zero).fields keep ws) = (vall (s.getD m .zero).fields l).1.map fun x => kpA (ksub s keep d) (s.getD m .zero).fields keep ws (arOf l x):=by
   unfold arecs;rw [List.map_map];rfl
  rw [e]
  refine ⟨vmsg_flat fun t ht => ?_,?_⟩
  ·
   obtain ⟨x,hx,rfl⟩:=List.mem_map.1 ht
   exact (key x hx).1
  ·
   have:=(arecs_flat (fs:=(s.getD m .zero).fields) (ls:=(vall (s.getD m .zero).fields l).1.map fun x => kpA (ksub s keep d) (s.getD m .zero).fields keep ws (arOf l x)) fun t ht => by
    obtain ⟨x,hx,rfl⟩:=List.mem_map.1 ht
    exact (key x hx).2.1).2
   rw [this,List.flatMap_map]
   conv => rhs;unfold arecs
   rw [List.flatMap_map]
   exact flatMap_same fun x hx => (key x hx).2.2
theorem tagA_new {t v:List UInt8} {k x n:Nat} (ht:tread t = (k,x,n,0)) (hn:n = t.length):tagA (t ++ v) = t:=by
 unfold tagA
 rw [tread_app _ (by rw [ht]),ht,hn]
 exact List.take_left
theorem tagA_read {s:List Mes} {d m:Nat} {l:List UInt8} {x:VW} (h:ViewOk s d m l x):∃ k y,tread (tagA (part l x.r.start x.r.to)) = (k,y,(tagA (part l x.r.start x.r.to)).length,0):=by
 obtain ⟨j,hj⟩:=h.look
 obtain ⟨hr,hst⟩:=vlook_next hj
 obtain ⟨g1,g2,g3,g4,g5,g6,g7,g8⟩:=rec_shape hr
 have e:=tagA_view h
 rw [hst] at e ⊢
 rw [← e,part_len _ _ _ (by omega) (by omega),Nat.add_sub_cancel_left]
 refine ⟨(tread (l.drop j)).1,(tread (l.drop j)).2.1,?_⟩
 unfold part
 rw [Nat.add_sub_cancel_left]
 refine tread_take ?_ (Nat.le_refl _)
 unfold tagN
 rw [← g7]
end Go.Proofs.YtfimpmennkfjcaaGreatDoor
namespace Go.Proofs.YtfimpmennkfjcaaGreatDoor
open Go.RowKit
theorem flat_single {α β:Type} (g:α → β) (l:List α):(l.flatMap fun a => [g a]) = l.map g:=by
 induction l with
 | nil => rfl
 | cons a r ih => rw [List.flatMap_cons,ih];rfl
theorem filter_map_flat {α β:Type} (g:α → β) (p:β → Bool) (l:List α):(l.map g).filter p = l.flatMap fun x => [g x].filter p:=by
 induction l with
 | nil => rfl
 | cons x r ih => rw [List.map_cons,List.flatMap_cons,← ih,← List.filter_append];rfl
theorem kpR_k {sub:Int → List (List Int) → List UInt8 → List UInt8} {fs:List Fld} {keep:Bool} {ws:List (List Int)} {a b:AR} (h:b ∈ kpR sub fs keep ws a):b.k = a.k:=by
 unfold kpR at h
 split at h
 ·
  cases keep <;> simp at h;rw [h]
 ·
  split at h
  ·
   cases keep <;> simp at h;rw [h]
  ·
   split at h
   ·
    simp at h;rw [h]
   ·
    cases keep <;> simp at h;rw [h]
theorem filter_kpR {sub:Int → List (List Int) → List UInt8 → List UInt8} {fs:List Fld} {keep:Bool} {ws:List (List Int)} (p:Int → Bool) (X:List AR):(X.flatMap (kpR sub fs keep ws)).filter (fun b => p b.k) = (X.filter fun a => p a.k).flatMap (kpR sub fs keep ws):=by
 induction X with
 | nil => rfl
 | cons a r ih =>
  rw [List.flatMap_cons,List.filter_append,ih,List.filter_cons]
  cases hp:p a.k with
  | true =>
   have:(kpR sub fs keep ws a).filter (fun b => p b.k) = kpR sub fs keep ws a:=List.filter_eq_self.2 fun b hb => by rw [kpR_k hb];exact hp
   rw [this];simp
  | false =>
   have:(kpR sub fs keep ws a).filter (fun b => p b.k) = []:=List.filter_eq_nil_iff.2 fun b hb => by rw [kpR_k hb,hp];simp
   rw [this];simp
theorem kpart_cat {s:List Mes} {keep:Bool} {d m:Nat} {ws:List (List Int)}:∀ {ls:List (List UInt8)},(∀ l ∈ ls,(vmsg s d m l).2 = 0) → kpart s keep d m ws ls.flatten = ls.flatMap (kpart s keep d m ws)
 | [],_ => by
  rw [List.flatten_nil,kpart_A (vmsg_nil s d m)]
  rfl
 | l :: r,h => by
  have h1:=h l (by simp)
  have h2:∀ x ∈ r,(vmsg s d m x).2 = 0:=fun x hx => h x (by simp [hx])
  rw [List.flatten_cons,List.flatMap_cons,← kpart_cat h2,kpart_A (vmsg_app h1 (vmsg_flat h2)),kpart_A h1,kpart_A (vmsg_flat h2),(arecs_app (vall_ok h1).1 (vall_ok (vmsg_flat h2)).1).2,List.flatMap_append]
theorem val_le {s:List Mes} {d m:Nat} {l:List UInt8} (h:(vmsg s d m l).2 = 0) (i:Int):(((arecs (s.getD m .zero).fields l).filter fun a => decide (a.k = i)).flatMap AR.val).length ≤ l.length:=by
 have h1:=vall_ok h
 have hf:=vall_flat h1.1
 have e:((arecs (s.getD m .zero).fields l).filter fun a => decide (a.k = i)).flatMap AR.val = (((vall (s.getD m .zero).fields l).1.filter fun x => decide (x.k = i)).map (arOf l)).flatMap AR.val:=by
  unfold arecs;rw [List.filter_map];rfl
 rw [e,List.flatMap_map]
 have hs:∀ (xs:List VW),(∀ x ∈ xs,ViewOk s d m l x) → ((xs.filter fun x => decide (x.k = i)).flatMap fun x => (arOf l x).val).length ≤ (xs.flatMap fun x => part l x.r.start x.r.to).length:=by
  intro xs
  induction xs with
  | nil => intro _;simp
  | cons x r ih =>
   intro hx
   have ih':=ih fun y hy => hx y (by simp [hy])
   obtain ⟨f1,f2,f3,-⟩:=(hx x (by simp)).facts
   have hv:(arOf l x).val.length ≤ (part l x.r.start x.r.to).length:=by
    show (part l x.r.at' x.r.to).length ≤ _
    rw [part_len _ _ _ (by omega) (by omega),part_len _ _ _ (by omega) (by omega)];omega
   rw [List.filter_cons,List.flatMap_cons,List.length_append]
   split
   ·
    rw [List.flatMap_cons,List.length_append];omega
   ·
    omega
 have:=hs _ h1.2
 rw [hf] at this
 exact this
end Go.Proofs.YtfimpmennkfjcaaGreatDoor
