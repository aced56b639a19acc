/- Parts of a proof: texts of the author, merged. No condition of their own. -/
import Derived.Test.YtfimpmennkfjcaaGreatDoorZ14
import Derived.Test.YtfimpmennkfjcaaGreatDoorZ23
import Derived.Test.YtfimpmennkfjcaaGreatDoorZ31
import Derived.Test.YtfimpmennkfjcaaGreatDoorZ33
import Derived.Test.YtfimpmennkfjcaaGreatDoorZ36
import Derived.Test.YtfimpmennkfjcaaGreatDoorZ39
import Derived.Test.YtfimpmennkfjcaaGreatDoorZ40
import Derived.Deep.CutBlock
namespace Go.Proofs.YtfimpmennkfjcaaGreatDoor
open Go.RowKit
def partsC (s:List Mes) (root d:Int) (b:List UInt8) (ws:List (List Int)) (keep:Bool):Nat × List UInt8:=
 if (vcheck s root b d).2 ≠ 0 then ((vcheck s root b d).2,[]) else if (pathsC s root ws).1 ≠ 0 then (10,[]) else (0,kpart s keep d.toNat root.toNat (mOf ws) b)
def namedC (s:List Mes) (root d:Int) (b:List UInt8) (ps:List (List UInt8)) (keep:Bool):Nat × List UInt8:=
 if argsCode s root d ≠ 0 then (argsCode s root d,[]) else if (makeC s root ps).1 ≠ 0 then ((makeC s root ps).1,[]) else partsC s root d b (makeC s root ps).2 keep
theorem make_ok {s:List Mes} {root:Int} {ps:List (List UInt8)} (h:(makeC s root ps).1 = 0):maskArgs s root = 0 ∧ ps.length ≤ 200 ∧ ∃ a,waysOf s root ps = some a ∧ makeC s root ps = (0,mOf a):=by
 unfold makeC at h ⊢
 by_cases h0:maskArgs s root = 0
 ·
  rw [if_neg (by omega)] at h ⊢
  by_cases h1:200 < ps.length
  ·
   rw [if_pos h1] at h;simp at h
  ·
   rw [if_neg h1] at h ⊢
   refine ⟨h0,by omega,?_⟩
   cases hw:waysOf s root ps with
   | none => rw [hw] at h;simp at h
   | some l => exact ⟨l,rfl,rfl⟩
 ·
  rw [if_pos h0] at h;exact absurd h h0
theorem vcheck_of {s:List Mes} {root d:Int} {l:List UInt8} (h:argsCode s root d = 0):(vcheck s root l d).2 = (vmsg s d.toNat root.toNat l).2:=by
 unfold vcheck;rw [if_neg (by omega)]
end Go.Proofs.YtfimpmennkfjcaaGreatDoor
namespace Go.Proofs.YtfimpmennkfjcaaGreatDoor
open Go.RowKit
theorem kpR_known {s:List Mes} {d:Nat} {fs:List Fld} {keep:Bool} {k:Nat} {f:Fld} (hf:f = fs.getD k .zero) (u:List (List Int)) (y:AR) (hy:y.k = k):kpR (ksub s keep d) fs keep u y =
  if u.any (wholeW f.number) = true then (if keep = true then [y] else []) else if underW u f.number ≠ [] ∧ f.kind = 17 ∧ f.rep = false then
   [⟨(k:Int),false,ksub s keep d f.of (underW u f.number) y.val,tagA y.whole ++ (vput (ksub s keep d f.of (underW u f.number) y.val).length ++ ksub s keep d f.of (underW u f.number) y.val)⟩] else if keep = true then [] else [y]:=by
 unfold kpR
 rw [hy,if_neg (by omega),Int.toNat_natCast,← hf]
theorem kpart_again {s:List Mes}:∀ {d m:Nat} {a:List (List Int)} {l:List UInt8},(vmsg s d m l).2 = 0 → l.length < 2 ^ 64 →
  kpart s true d m a (kpart s true d m a l) = kpart s true d m a l
 | d,m,a,l,h,hl => by
  obtain ⟨h1,h2⟩:=kpart_both_facts (keep:=true) (ws:=a) h hl
  rw [kpart_A h1,h2,kpart_A h]
  unfold arecs
  rw [List.flatMap_map,List.flatMap_assoc,List.flatMap_map]
  refine flatMap_same fun x hx => ?_
  have hx':=(vall_ok h).2 x hx
  by_cases c1:(arOf l x).k < 0
  ·
   have e:∀ u,kpR (ksub s true d) (s.getD m .zero).fields true u (arOf l x) = []:=fun u => by
    unfold kpR;rw [if_pos c1];simp
   unfold kpA
   rw [e a]
   rfl
  obtain ⟨k,hk⟩:∃ k:Nat,x.k = k:=⟨x.k.toNat,by have:¬ x.k < 0:=c1;omega⟩
  have hk':(arOf l x).k = k:=hk
  obtain ⟨f,hf⟩:∃ f,f = (s.getD m .zero).fields.getD k .zero:=⟨_,rfl⟩
  have unf:=fun u y hy => kpR_known (s:=s) (d:=d) (keep:=true) hf u y hy
  unfold kpA
  rw [unf a _ hk']
  by_cases ca:a.any (wholeW f.number) = true
  ·
   rw [if_pos ca,if_pos rfl,List.flatMap_cons,List.flatMap_nil,List.append_nil,unf a _ hk',if_pos ca,if_pos rfl]
  rw [if_neg ca]
  by_cases cu:underW a f.number ≠ [] ∧ f.kind = 17 ∧ f.rep = false
  ·
   rw [if_pos cu]
   obtain ⟨d',rfl,hvm⟩:=hx'.sub hk (by rw [← hf];exact cu.2.1)
   rw [← hf] at hvm
   obtain ⟨tk,ty,htr⟩:=tagA_read hx'
   have hval:(arOf l x).val = vbytes l x:=rfl
   have hwh:(arOf l x).whole = part l x.r.start x.r.to:=rfl
   rw [List.flatMap_cons,List.flatMap_nil,List.append_nil,unf a _ rfl,if_neg ca,if_pos cu]
   simp only [List.flatMap_cons,List.flatMap_nil,List.append_nil]
   have hvl:(vbytes l x).length ≤ l.length:=by unfold vbytes part;simp;omega
   have ih:=kpart_again (s:=s) (a:=underW a f.number) hvm (by omega)
   have e1:∀ u y,ksub s true (d' + 1) f.of u y = kpart s true d' f.of.toNat u y:=fun _ _ => rfl
   simp only [e1]
   rw [hval,hwh,ih,tagA_new htr rfl]
  ·
   rw [if_neg cu,if_pos rfl]
   rfl
theorem view_num {s:List Mes} {d m:Nat} {l:List UInt8} {x:VW} (hx:ViewOk s d m l x) {k:Nat} (hk:x.k = k):((s.getD m .zero).fields.getD k .zero).number = (x.r.number:Int):=by
 obtain ⟨j,hj⟩:=hx.look
 rcases vlook_cases (s.getD m .zero).fields l j with ⟨c,hc',e,-⟩ | ⟨r',h1,h2,h3,h4,h5,e | ⟨k',run,hk',e,h6,-⟩⟩
 ·
  rw [e] at hj
  exact absurd (congrArg (fun t => t.2.2.2) hj) (by simpa using hc')
 ·
  rw [e] at hj
  have e2:(-1:Int) = x.k:=congrArg (fun t => t.2.1) hj
  omega
 ·
  rw [e] at hj
  have e1:r' = x.r:=congrArg (fun t => t.1) hj
  have e2:(k':Int) = x.k:=congrArg (fun t => t.2.1) hj
  have:k' = k:=by omega
  subst this
  rw [← e1];exact h6
theorem kpart_none {s:List Mes}:∀ {d m:Nat} {a:List (List Int)} {l:List UInt8} {w:List Int},(vmsg s d m l).2 = 0 → l.length < 2 ^ 64 → hasW a w = true →
  wayHas s w m (kpart s true d m a (kpart s false d m a l)) = false
 | d,m,a,l,[],_,_,hw => by
  rw [wayHas]
 | d,m,a,l,n :: r,h,hl,hw => by
  obtain ⟨h1,h2⟩:=kpart_both_facts (keep:=false) (ws:=a) h hl
  have hle:=kpart_le (keep:=false) (ws:=a) h
  obtain ⟨h3,h4⟩:=kpart_both_facts (keep:=true) (ws:=a) h1 (by omega)
  rw [h2] at h4
  obtain ⟨N,hN⟩:∃ N,N = kpart s true d m a (kpart s false d m a l):=⟨_,rfl⟩
  rw [← hN] at h3 h4 ⊢
  rw [wayHas,List.any_eq_false]
  intro x hx hp
  rw [Bool.and_eq_true] at hp
  obtain ⟨hp1,hp2⟩:=hp
  have hxn:(x.r.number:Int) = n:=of_decide_eq_true hp1
  have hx':=(vall_ok h3).2 x hx
  have hmem:arOf N x ∈ arecs (s.getD m .zero).fields N:=List.mem_map.2 ⟨x,hx,rfl⟩
  rw [h4,List.flatMap_assoc] at hmem
  obtain ⟨b,hb,hmem⟩:=List.mem_flatMap.1 hmem
  obtain ⟨c,hc,hmem⟩:=List.mem_flatMap.1 hmem
  have kb:c.k = b.k:=kpR_k hc
  have kc:x.k = c.k:=kpR_k hmem
  by_cases c1:b.k < 0
  ·
   have hcn:c.k < 0:=by omega
   unfold kpR at hmem
   rw [if_pos hcn] at hmem
   simp at hmem
  obtain ⟨k,hk⟩:∃ k:Nat,b.k = k:=⟨b.k.toNat,by omega⟩
  obtain ⟨f,hf⟩:∃ f,f = (s.getD m .zero).fields.getD k .zero:=⟨_,rfl⟩
  have hfn:f.number = n:=by
   rw [hf,view_num hx' (show x.k = (k:Int) by omega),hxn]
  rw [kpR_known hf a b hk] at hc
  rw [kpR_known hf a c (by omega)] at hmem
  by_cases ca:a.any (wholeW f.number) = true
  ·
   rw [if_pos ca] at hc
   simp at hc
  rw [if_neg ca] at hc hmem
  by_cases cu:underW a f.number ≠ [] ∧ f.kind = 17 ∧ f.rep = false
  ·
   rw [if_pos cu] at hc hmem
   obtain ⟨v,hv,hv0,hvp⟩:=(hasW_iff _ _).1 hw
   cases v with
   | nil => exact hv0 rfl
   | cons n' v' =>
    obtain ⟨rfl,hvp'⟩:=List.cons_prefix_cons.1 hvp
    have hv1:v' ≠ []:=by
     rintro rfl
     exact ca (any_whole.2 (by rw [hfn];exact hv))
    have hr0:r ≠ []:=by
     rintro rfl
     exact hv1 (List.prefix_nil.1 hvp')
    have hu:hasW (underW a f.number) r = true:=(hasW_iff _ _).2 ⟨v',(under_mem _ _ _).2 ⟨hv1,by rw [hfn];exact hv⟩,hv1,hvp'⟩
    rw [decide_eq_false hr0,Bool.false_or] at hp2
    have hxk:x.k = (k:Int):=by omega
    rw [hxk,Int.toNat_natCast,← hf] at hp2
    obtain ⟨y,hy,hyb⟩:=List.mem_map.1 hb
    have hy':=(vall_ok h).2 y hy
    have hyk:y.k = (k:Int):=by
     have:(arOf l y).k = b.k:=by rw [hyb]
     have e:(arOf l y).k = y.k:=rfl
     omega
    obtain ⟨d',rfl,hvm⟩:=hy'.sub hyk (by rw [← hf];exact cu.2.1)
    rw [← hf] at hvm
    have hbv:b.val = vbytes l y:=by rw [← hyb];rfl
    rw [List.mem_singleton] at hc hmem
    have e1:∀ q u y,ksub s q (d' + 1) f.of u y = kpart s q d' f.of.toNat u y:=fun _ _ _ => rfl
    have hxv:vbytes N x = kpart s true d' f.of.toNat (underW a f.number) (kpart s false d' f.of.toNat (underW a f.number) (vbytes l y)):=by
     have g1:vbytes N x = (arOf N x).val:=rfl
     rw [g1,hmem]
     show ksub s true (d' + 1) f.of (underW a f.number) c.val = _
     rw [hc]
     show ksub s true (d' + 1) f.of (underW a f.number) (ksub s false (d' + 1) f.of (underW a f.number) b.val) = _
     rw [hbv];rfl
    have hvl:(vbytes l y).length ≤ l.length:=by unfold vbytes part;simp;omega
    have ih:=kpart_none (s:=s) (d:=d') (m:=f.of.toNat) (a:=underW a f.number) (l:=vbytes l y) (w:=r) hvm (by omega) hu
    rw [hxv,ih] at hp2
    cases hp2
  ·
   rw [if_neg cu,if_pos rfl] at hmem
   simp at hmem
def plainM:(d:Nat) → M d → M d
 | 0,x => x
 | d + 1,x => (⟨(M.vals x).map fun v => ⟨v.num,v.words,v.texts,v.subs.map (plainM d)⟩,[]⟩:Msgd (M d))
theorem map_filter_flat {α β γ:Type} (g:α → β) (p:β → Bool) (q:β → γ) (l:List α):((l.map g).filter p).map q = l.flatMap fun x => ([g x].filter p).map q:=by
 induction l with
 | nil => rfl
 | cons x r ih => rw [List.map_cons,List.flatMap_cons,← ih,← List.map_append,← List.filter_append];rfl
theorem both_plain {s:List Mes} (hs:sright s = true):∀ {d m:Nat} {ws:List (List Int)} {l:List UInt8},m < s.length → (vmsg s d m l).2 = 0 → l.length < 2 ^ 64 →
  plainM (d + 1) (tof s d m (kpart s true d m ws l ++ kpart s false d m ws l)) = plainM (d + 1) (tof s d m l)
 | d,m,ws,l,hm,h,hl => by
  obtain ⟨fs,hfs⟩:∃ fs,fs = (s.getD m .zero).fields:=⟨_,rfl⟩
  have hN:Nums fs:=by rw [hfs];exact schema_Nums hs m hm
  obtain ⟨hv1,hY1⟩:=kpart_both_facts (keep:=true) (ws:=ws) h hl
  obtain ⟨hv2,hY2⟩:=kpart_both_facts (keep:=false) (ws:=ws) h hl
  have hYY:=(arecs_app (vall_ok hv1).1 (vall_ok hv2).1).2
  rw [hY1,hY2] at hYY
  rw [tof_msg,tof_msg,← msgA_of,← msgA_of,hYY,← hfs]
  obtain ⟨X,hX⟩:∃ X,X = arecs fs l:=⟨_,rfl⟩
  rw [← hX]
  show (⟨_,[]⟩:Msgd (M d)) = ⟨_,[]⟩
  congr 1
  show ((((sortedF fs).map fun i => fieldA (tsub s d) (fs.getD i.toNat .zero) ((X.flatMap (kpR (ksub s true d) fs true ws) ++ X.flatMap (kpR (ksub s false d) fs false ws)).filter fun x => decide (x.k = i))).filter _).map _) =
   ((((sortedF fs).map fun i => fieldA (tsub s d) (fs.getD i.toNat .zero) (X.filter fun x => decide (x.k = i))).filter _).map _)
  rw [map_filter_flat,map_filter_flat]
  refine flatMap_same fun i hi => ?_
  obtain ⟨hi0,hil⟩:=sortedF_mem hi
  obtain ⟨q,rfl⟩:∃ q:Nat,i = q:=⟨i.toNat,by omega⟩
  have hq:q < fs.length:=by omega
  rw [List.filter_append,filter_kpR (fun k => decide (k = (q:Int))),filter_kpR (fun k => decide (k = (q:Int))),Int.toNat_natCast]
  obtain ⟨Xi,hXi⟩:∃ Xi,Xi = X.filter fun a => decide (a.k = (q:Int)):=⟨_,rfl⟩
  rw [← hXi]
  obtain ⟨f,hf⟩:∃ f,f = fs.getD q .zero:=⟨_,rfl⟩
  rw [← hf]
  have hk:∀ a ∈ Xi,a.k = (q:Int):=fun a ha => by rw [hXi] at ha;exact of_decide_eq_true (List.mem_filter.1 ha).2
  have hview:∀ a ∈ Xi,∃ x,ViewOk s d m l x ∧ x.k = (q:Int) ∧ a = arOf l x:=fun a ha => by
   have h1:=ha
   rw [hXi,hX] at h1
   obtain ⟨x,hx,e⟩:=List.mem_map.1 (List.mem_filter.1 h1).1
   rw [hfs] at hx
   exact ⟨x,(vall_ok h).2 x hx,by have:=hk a ha;rw [← e] at this;exact this,e.symm⟩
  have unf:∀ keep,∀ a ∈ Xi,_:=fun keep a ha => kpR_known (s:=s) (d:=d) (keep:=keep) hf ws a (hk a ha)
  have hself:Xi.flatMap (fun a => [a]) = Xi:=by simp
  have hnone:Xi.flatMap (fun _ => ([]:List AR)) = []:=by simp
  by_cases hw:ws.any (wholeW f.number) = true
  ·
   rw [flatMap_same (g:=fun a => [a]) fun a ha => by rw [unf true a ha,if_pos hw];rfl,flatMap_same (f:=kpR (ksub s false d) fs false ws) (g:=fun _ => []) fun a ha => by rw [unf false a ha,if_pos hw];rfl,hself,hnone,List.append_nil]
  by_cases hc:underW ws f.number ≠ [] ∧ f.kind = 17 ∧ f.rep = false
  ·
   obtain ⟨hu,h17,hrep⟩:=hc
   cases hXe:Xi with
   | nil => rfl
   | cons a0 r0 =>
    rw [← hXe]
    have ha0:a0 ∈ Xi:=by rw [hXe];simp
    obtain ⟨x0,hx0,hxk0,-⟩:=hview a0 ha0
    obtain ⟨d',rfl,-⟩:=hx0.sub hxk0 (by rw [← hfs,← hf];exact h17)
    have hsubv:∀ a ∈ Xi,(vmsg s d' f.of.toNat a.val).2 = 0 ∧ a.run = false:=fun a ha => by
     obtain ⟨x,hx,hxk,rfl⟩:=hview a ha
     obtain ⟨d'',e,hv⟩:=hx.sub hxk (by rw [← hfs,← hf];exact h17)
     have e':d' = d'':=by omega
     subst e'
     rw [← hfs,← hf] at hv
     refine ⟨hv,?_⟩
     obtain ⟨-,-,-,f4⟩:=hx.facts
     show x.run = false
     cases hr:x.run with
     | false => rfl
     | true =>
      rcases f4 with ⟨f4,f5⟩ | ⟨k',f4,f5,f6,-⟩
      ·
       rw [hr] at f5;cases f5
      ·
       have:k' = q:=by omega
       subst this
       have:=(f6 hr).2
       rw [← hfs,← hf,h17] at this
       simp [knumber] at this
    have hwords:∀ (xs:List AR),(∀ a ∈ xs,a.run = false) → xs ≠ [] → fieldA (tsub s (d' + 1)) f xs = ⟨f.number,[],[],[tof s d' f.of.toNat (xs.flatMap AR.val)]⟩:=fun xs hx hne => by
     unfold fieldA
     have hcr:∀ a ∈ counts f xs,a.run = false:=fun a ha => by
      unfold counts lastOf at ha
      split at ha
      ·
       exact hx a ha
      ·
       exact hx a (List.mem_of_mem_drop ha)
     have e:(counts f xs).flatMap (arW f) = []:=by
      rw [flatMap_same (g:=fun _ => ([]:List Nat)) fun a ha => by unfold arW;rw [hcr a ha,h17];simp [knumber]]
      simp
     rw [e,if_pos h17,if_pos h17,if_neg (by rw [hrep];decide),if_neg hne]
     rfl
    have hY:∀ keep,Xi.flatMap (kpR (ksub s keep (d' + 1)) fs keep ws) = Xi.map fun a => (⟨(q:Int),false,kpart s keep d' f.of.toNat (underW ws f.number) a.val,tagA a.whole ++ (vput (kpart s keep d' f.of.toNat (underW ws f.number) a.val).length ++ kpart s keep d' f.of.toNat (underW ws f.number) a.val)⟩:AR):=fun keep => by
     rw [flatMap_same (g:=fun a => [(⟨(q:Int),false,kpart s keep d' f.of.toNat (underW ws f.number) a.val,tagA a.whole ++ (vput (kpart s keep d' f.of.toNat (underW ws f.number) a.val).length ++ kpart s keep d' f.of.toNat (underW ws f.number) a.val)⟩:AR)]) fun a ha => by
      rw [unf keep a ha,if_neg hw,if_pos ⟨hu,h17,hrep⟩];rfl]
     exact flat_single _ _
    have hcat:∀ keep,(Xi.map fun a => (⟨(q:Int),false,kpart s keep d' f.of.toNat (underW ws f.number) a.val,tagA a.whole ++ (vput (kpart s keep d' f.of.toNat (underW ws f.number) a.val).length ++ kpart s keep d' f.of.toNat (underW ws f.number) a.val)⟩:AR)).flatMap AR.val = kpart s keep d' f.of.toNat (underW ws f.number) (Xi.flatMap AR.val):=fun keep => by
     have e:Xi.flatMap AR.val = (Xi.map AR.val).flatten:=flatten_map _ _
     rw [e,kpart_cat (fun t ht => by obtain ⟨a,ha,rfl⟩:=List.mem_map.1 ht;exact (hsubv a ha).1),List.flatMap_map,List.flatMap_map]
    have hvs:(vmsg s d' f.of.toNat (Xi.flatMap AR.val)).2 = 0:=by
     rw [flatten_map]
     exact vmsg_flat fun t ht => by obtain ⟨a,ha,rfl⟩:=List.mem_map.1 ht;exact (hsubv a ha).1
    have hfm:f ∈ (s.getD m .zero).fields:=by
     rw [hf,← hfs]
     have:fs.getD q .zero = fs[q]:=by simp [List.getD,hq]
     rw [this];exact List.getElem_mem hq
    have hof:=(sright_field hs m hm f hfm).2.1 h17
    have ih:=both_plain hs (d:=d') (ws:=underW ws f.number) (m:=f.of.toNat) (l:=Xi.flatMap AR.val) (by omega) hvs (by
     have:=val_le h (q:Int)
     rw [← hfs,← hX,← hXi] at this
     omega)
    have hne:Xi ≠ []:=by rw [hXe];simp
    rw [hY true,hY false,hwords _ (fun a ha => by
      rcases List.mem_append.1 ha with ha | ha
      ·
       obtain ⟨b,-,rfl⟩:=List.mem_map.1 ha;rfl
      ·
       obtain ⟨b,-,rfl⟩:=List.mem_map.1 ha;rfl) (by simpa using hne),List.flatMap_append,hcat true,hcat false,hwords Xi (fun a ha => (hsubv a ha).2) hne]
    have e1:∀ y:M (d' + 1),decide (0 < many (⟨f.number,[],[],[y]⟩:Val (M (d' + 1)))) = true:=fun y => by simp [many]
    rw [List.filter_cons,List.filter_cons,e1,e1,if_pos rfl,if_pos rfl,List.filter_nil]
    simp only [List.map_cons,List.map_nil]
    rw [ih]
  ·
   rw [flatMap_same (g:=fun _ => []) fun a ha => by rw [unf true a ha,if_neg hw,if_neg hc];rfl,flatMap_same (f:=kpR (ksub s false d) fs false ws) (g:=fun a => [a]) fun a ha => by rw [unf false a ha,if_neg hw,if_neg hc];rfl,hself,hnone,List.nil_append]
end Go.Proofs.YtfimpmennkfjcaaGreatDoor
namespace Go.Proofs.YtfimpmennkfjcaaGreatDoor
open Go.RowKit
theorem nform_part {s:List Mes} (hs:sright s = true) {d m:Nat} {l:List UInt8} (hm:m < s.length) (h:(vmsg s d m l).2 = 0) (hl:l.length ≤ 1099511627776) (k:Nat) :
  (((sortedF (s.getD m .zero).fields).take k).flatMap fun i => nfield s d ((s.getD m .zero).fields.getD i.toNat .zero) l (viewsOf (vall (s.getD m .zero).fields l).1 i)).length ≤ 30 * l.length:=by
 have h1:=nform_len hs d m l hm h hl
 rw [nform_flat hs hm,List.length_append] at h1
 have h2:=flat_take_le (fun i => nfield s d ((s.getD m .zero).fields.getD i.toNat .zero) l (viewsOf (vall (s.getD m .zero).fields l).1 i)) (sortedF (s.getD m .zero).fields) k
 omega
set_option maxRecDepth 100000 in
set_option maxHeartbeats 16000000 in
theorem norm_form_step {s:List Mes} (hs:sright s = true) (d:Nat) (hrec:∀ d',d = d' + 1 → FormOk s d'):FormOk s d:=by
 intro w sv bv m l hS hm hb hl hv
 have HRE:=hid hrec
 obtain ⟨fs,HFS⟩:∃ fs,Hid (fs = (s.getD m .zero).fields):=⟨_,rfl⟩
 have HM:=hid hm
 have HL:=hid hl
 have HVV:=hid hv
 have HS:=hid hS
 have HB:=hid hb
 have HSR:=hid hs
 obtain ⟨-,sa,sc,rfl,hat⟩:=hS.open
 obtain ⟨sn,HSN⟩:∃ n,Hid (n = s.length):=⟨_,rfl⟩
 obtain ⟨sb,so,fv,hsa,-,c0,c1,hF⟩:=hat m hm
 subst hsa
 rw [← HFS.out] at hF
 rw [← HSN.out] at HS hm ⊢
 obtain ⟨nm,HNM⟩:∃ nm,Hid (nm = (s.getD m .zero).name):=⟨_,rfl⟩
 rw [← HNM.out] at c0
 obtain ⟨-,va,vcap,rfl,-⟩:=hb.open
 obtain ⟨ln,HLN⟩:∃ n,Hid (n = l.length):=⟨_,rfl⟩
 rw [← HLN.out] at HB ⊢
 obtain ⟨hfl,fa,fc,rfl,-⟩:=hF.open
 obtain ⟨fn,HFN⟩:∃ n,Hid (n = fs.length):=⟨_,rfl⟩
 have HFL:Hid (fs.length ≤ 200):=by rw [Hid,HFS.out];exact sright_fields' hs m (by rw [← HSN.out];exact hm)
 have HFT:=hid hF
 rw [← HFN.out] at HFT c1
 obtain ⟨all,HALL⟩:∃ all,Hid (all = (vall fs l).1):=⟨_,rfl⟩
 have hok:=vall_ok hv
 rw [← HFS.out] at hok
 have HG:=hid (norm_gather hb (by omega) hF nm hok.1 (fun x hx => by
  obtain ⟨f1,f2,f3,-⟩:=(hok.2 x hx).facts
  exact ⟨by omega,f3⟩))
 have hvo:=hok.2
 rw [← HALL.out] at HG hvo
 have HVO:=hid hvo
 rw [← HFN.out,← HLN.out] at HG
 obtain ⟨g,HGG⟩:∃ g:Int → List UInt8,Hid (g = fun i => nfield s d (fs.getD i.toNat .zero) l (viewsOf all i)):=⟨_,rfl⟩
 have HNF:Hid (nform s d m l = (sortedF fs).flatMap g ++ unkOf l all):=by
  rw [Hid,nform_flat hs (by rw [← HSN.out];exact hm),HGG.out,HALL.out,HFS.out];rfl
 have HGL:Hid (∀ k,(((sortedF fs).take k).flatMap g).length ≤ 32212254720):=fun k => by
  have h1:=nform_part hs (by rw [← HSN.out];exact hm) hv (by omega) k
  rw [HGG.out,HALL.out,HFS.out]
  omega
 obtain ⟨Q,HQ⟩:∃ Q:Ending → World → Prop,Hid (Q = fun e w' => ∃ v',e = .returned v' ∧ Own w' w.heap.size v' (nform s d m l) ∧ Below w.heap.size w w'):=⟨_,rfl⟩
 rw [← HQ.out]
 have HEND:Hid (∀ v' w' base,w.heap.size ≤ base → Own w' base v' ((sortedF fs).flatMap g ++ unkOf l all) → Below w.heap.size w w' → Q (.returned v') w'):=by
  intro v' w' base h0 h1 h2
  rw [HQ.out]
  exact ⟨v',rfl,by rw [HNF.out];exact h1.mono h0,h2⟩
 have HC01:=hid (And.intro c0 c1)
 have lS:=World.block_lt_of_cell? w _ c0
 have HLS:=hid lS
 clear hrec hv hS hb hs hat hF hfl hok hvo HQ hl
 go_enter Tryz.func56,Tryz.ntmps56
 go_upto_region 2 with (go_at_call 85;refine HG.out.mono ?_;rintro e w1 ⟨r,u,es,rfl,hmi,hown,hun,hb1⟩;obtain ⟨ua,un,uc,rfl⟩:=own_form' hun)
 obtain ⟨W2,HW2⟩:∃ W,Hid (W = w1.alloc (.cells #[.map (some r),.slice ua un uc] 147)):=⟨_,rfl⟩
 obtain ⟨P,HP⟩:∃ P,Hid (P = w1.heap.size):=⟨_,rfl⟩
 rw [← HW2.out,← HP.out]
 have hb12:Below w1.heap.size w1 W2:=by rw [HW2.out];exact (Below.refl _ _).alloc (Nat.le_refl _) _
 have hkP:Blk W2 P [.map (some r),.slice ua un uc] 147:=by rw [HW2.out,HP.out];exact Blk.new w1 [.map (some r),.slice ua un uc] _
 have hb2:Below w.heap.size w W2:=hb1.trans (hb12.mono hb1.size)
 have d0:=below_keeps hb2 _ _ c0
 have d1:=below_keeps hb2 _ _ c1
 have lS2:sb < W2.heap.size:=Nat.lt_of_lt_of_le lS hb2.size
 have hrl:r < w1.heap.size:=by have:=hmi;unfold MapIs at this;exact (Array.getElem?_eq_some_iff.1 this).1
 have HMI:=hid (show MapIs W2 r intK es from (hb12.block r hrl).trans hmi)
 have HRL:Hid (r < W2.heap.size):=Nat.lt_of_lt_of_le hrl hb12.size
 have HOWN:Hid (∀ n:Int,OwnV W2 w.heap.size (atK es n) (numsOf all n)):=fun n => (hown n).below_of hb12
 have HUN:=hid (hun.below_of hb12)
 have HKP:=hid hkP
 have HB2:=hid hb2
 have hSO:=hid (schema_Sorted nm (HFT.out.below hb2) (by have:=HFL.out;omega))
 clear c0 c1 lS hmi hown hun hb1 hb12 hkP hb2 hrl
 go_upto_region 3 with fail
 go_wp2_with (go_at_call 86;refine hSO.out.mono ?_;rintro e W3 ⟨oa,oc,rfl,hord,hb3⟩;rw [sortedF_len,← HFN.out])
 have HB23:=hid hb3
 have HB3:=hid (HB2.out.trans (hb3.mono HB2.out.size))
 have HORD:=hid hord
 have hfn:fn ≤ 200:=by have:=HFL.out;have:=HFN.out;omega
 clear hb3 hord d0 d1 lS2 hSO
 go_loopw [8,25] (fun v8 v25 wr => ∃ (k:Nat) (ba:Option Addr) (bn bc:Nat),v25 = .int .i64 (k:Int) ∧ v8 = .slice ba bn bc ∧ k ≤ fn ∧ Hid (Own wr W3.heap.size (.slice ba bn bc) (((sortedF fs).take k).flatMap g) ∧ Below W3.heap.size W3 wr)) (fun _ v25 _ => fn - (intOf v25).toNat)
 case atStart => exact ⟨0,none,0,0,rfl,rfl,by omega,own_nil _ _,Below.refl _ _⟩
 case round =>
  obtain ⟨k,ba,bn,bc,rfl,rfl,hk,HI⟩:=hrel
  have hbr:Below W2.heap.size W2 wr:=HB23.out.trans (HI.out.2.mono HB23.out.size)
  have hb0:Below w.heap.size w wr:=HB2.out.trans (hbr.mono HB2.out.size)
  have hkp:=HKP.out.below hbr
  have HB0:=hid hb0
  have HBR:=hid hbr
  have p0:=hkp.cell 0 _ rfl
  have p1:=hkp.cell 1 _ rfl
  have pl:=hkp.lt
  by_cases hlt:k < fn
  ·
   obtain ⟨ord,hoi⟩:∃ x,(sortedF fs)[k]? = some x:=⟨_,List.getElem?_eq_getElem (by rw [sortedF_len,← HFN.out];exact hlt)⟩
   obtain ⟨hr0,hr1⟩:=sortedF_mem (List.mem_of_getElem? hoi)
   obtain ⟨q,rfl⟩:∃ q:Nat,ord = (q:Int):=⟨ord.toNat,by omega⟩
   have hq:q < fs.length:=by omega
   have HTK:Hid (((sortedF fs).take (k + 1)).flatMap g = ((sortedF fs).take k).flatMap g ++ g (q:Int)):=flat_take g hoi
   obtain ⟨og,rfl,hog,hrow⟩:∃ g,oa = some ⟨g,0,none⟩ ∧ W2.heap.size ≤ g ∧ IRow W3 g (sortedF fs):=by
    rcases HORD.out with h | h
    ·
     rw [h] at hoi;simp at hoi
    ·
     exact h
   have o0:wr.cell? ⟨og,k,none⟩ = some (.int .i64 (q:Int)):=by
    have h1:=hrow.cell k (by rw [sortedF_len,← HFN.out];exact hlt)
    have h2:(sortedF fs)[k]'(by rw [sortedF_len,← HFN.out];exact hlt) = (q:Int):=by
     have:=List.getElem?_eq_some_iff.1 hoi
     exact this.2
    first
     | (rw [h2] at h1;exact below_keeps HI.out.2 _ _ h1)
     | (simp only [List.getD,hoi,Option.getD] at h1;exact below_keeps HI.out.2 _ _ h1)
   obtain ⟨f,HF⟩:∃ f,Hid (f = fs.getD q .zero):=⟨_,rfl⟩
   obtain ⟨-,fa',fc',hfe,hfat⟩:=(HFT.out.below hb0).open
   rw [← HFN.out] at hfe
   have hfa:fa = fa':=by injection hfe
   subst hfa
   obtain ⟨fb,fo,hfb,hok,g0,g1,g2,g3,g4,g5⟩:=hfat q hq
   rw [← HF.out] at hok g0 g1 g2 g3 g4 g5
   subst hfb
   have hqn:q < fn:=by rw [HFN.out];exact hq
   have hixf:=index_run Tryz.underlying65 size_fld rfl q hqn (a:=some ⟨fb,fo,none⟩) (cap:=fc)
   have c0:=below_keeps hb0 _ _ HC01.out.1
   have c1:=below_keeps hb0 _ _ HC01.out.2
   have lS:=Nat.lt_of_lt_of_le HLS.out hb0.size
   obtain ⟨W4,HW4⟩:∃ W,Hid (W = wr.alloc (.cells #[.string f.name,.int .i64 f.number,.int .i64 f.kind,.bool f.rep,.bool f.packed,.int .i64 f.of] 64)):=⟨_,rfl⟩
   obtain ⟨FB,HFB⟩:∃ b,Hid (b = wr.heap.size):=⟨_,rfl⟩
   have hb4:Below wr.heap.size wr W4:=by rw [HW4.out];exact (Below.refl _ _).alloc (Nat.le_refl _) _
   have hf4:Blk W4 FB [.string f.name,.int .i64 f.number,.int .i64 f.kind,.bool f.rep,.bool f.packed,.int .i64 f.of] 64:=by rw [HW4.out,HFB.out];exact Blk.new wr [.string f.name,.int .i64 f.number,.int .i64 f.kind,.bool f.rep,.bool f.packed,.int .i64 f.of] _
   have hbr4:Below W2.heap.size W2 W4:=hbr.trans (hb4.mono hbr.size)
   have hb04:Below w.heap.size w W4:=hb0.trans (hb4.mono hb0.size)
   have hlk:=parts_lookup ((hbr4.block r HRL.out).trans HMI.out) f.number
   have hmo:=(HOWN.out f.number).below_of hbr4
   have hN:Nums (s.getD m .zero).fields:=schema_Nums HSR.out m (by rw [← HSN.out];exact hm)
   have hnv:numsOf all f.number = viewsOf all (q:Int):=by
    have h1:=nums_views hN HVO.out (fun x hx k hk => view_num (HVO.out x hx) hk) (q:=q) (by rw [← HFS.out];exact hq)
    rw [← HFS.out,← HF.out] at h1
    exact h1
   rw [hnv] at hmo
   obtain ⟨ma,mc,hform⟩:=hmo.form
   rw [hform] at hlk hmo
   obtain ⟨xs,HXS⟩:∃ xs,Hid (xs = viewsOf all (q:Int)):=⟨_,rfl⟩
   rw [← HXS.out] at hlk hmo
   obtain ⟨xn,HXN⟩:∃ n,Hid (n = xs.length):=⟨_,rfl⟩
   rw [← HXN.out] at hlk hmo
   have HGQ:Hid (g (q:Int) = nfield s d f l xs):=by rw [Hid,HGG.out,HF.out,HXS.out];rfl
   have HMO:=hid hmo
   have HO4:=hid (HI.out.1.below_of hb4)
   have HB34:Hid (Below W3.heap.size W3 W4):=HI.out.2.trans (hb4.mono HI.out.2.size)
   have HB04:=hid hb04
   have HBR4:=hid hbr4
   have HF4:=hid hf4
   have e1:=hf4.cell 1 _ rfl
   have el:=hf4.lt
   have pp0:=(hkp.below hb4).cell 0 _ rfl
   have ppl:=(hkp.below hb4).lt
   clear hrow hfat hfe hok hmo hform hN hnv hbr4 hb04 hb4 hf4 hkp hbr hb0 HI hoi hr0 hr1 p0 p1 pl
   go_upto_region 7 with fail
   rw [← HW4.out,← HFB.out]
   clear g0 g1 g2 g3 g4 g5 c0 c1 lS o0 hixf
   go_upto_region 8 with fail
   by_cases hxn:xn = 0
   ·
    have hxe:xs = []:=List.length_eq_zero_iff.1 (by have:=HXN.out;omega)
    have HGE:Hid (((sortedF fs).take (k + 1)).flatMap g = ((sortedF fs).take k).flatMap g):=by rw [Hid,HTK.out,HGQ.out,hxe,nfield_nil,List.append_nil]
    subst hxn
    clear hxe e1 el pp0 ppl hlk
    go_wp2_with fail
    go_roundw
    case rel => exact ⟨k + 1,_,_,_,by go_num,rfl,by omega,by rw [HGE.out];exact HO4.out,HB34.out⟩
    case measure => simp [intOf];omega
   ·
    have hxp:(0:Int) < (xn:Int):=by omega
    have hnf:NF s d m f l xs W3.heap.size W4 (.slice (some ⟨sb,so,none⟩) sn sc) (.slice ba bn bc) (.slice va ln vcap) (.slice ma xn mc) (((sortedF fs).take k).flatMap g):=by
     have hmL:m < s.length:=by rw [← HSN.out];exact hm
     have hqL:q < (s.getD m .zero).fields.length:=by rw [← HFS.out];exact hq
     have hof:=of_range HSR.out hmL hqL
     rw [← HFS.out,← HF.out] at hof
     have hnum:=of_decide_eq_true (schema_nums HSR.out m hmL q hqL).2
     rw [← HFS.out,← HF.out] at hnum
     have hrec:=field_recs HSR.out hmL HVV.out hqL
     rw [← HFS.out,← HF.out,← HALL.out,← HXS.out] at hrec
     have hsm:=vsum_filter (fun x => decide (x.k = (q:Int))) (vall fs l).1
     have hal:=all_vsum fs l
     have hxm:∀ x ∈ xs,x ∈ all:=fun x hx => by rw [HXS.out] at hx;exact (viewsOf_mem hx).1
     have hsx:vsum xs ≤ l.length:=by
      have e:xs = (vall fs l).1.filter fun x => decide (x.k = (q:Int)):=by rw [HXS.out,HALL.out];rfl
      rw [e];omega
     have hxl:xs.length ≤ l.length:=by
      have h1:=vall_len fs l
      have e:xs = (vall fs l).1.filter fun x => decide (x.k = (q:Int)):=by rw [HXS.out,HALL.out];rfl
      have h2:=List.length_filter_le (fun x:VW => decide (x.k = (q:Int))) (vall fs l).1
      rw [e];omega
     exact ⟨hof.1,hof.2,⟨hnum.1,hnum.2.1⟩,by rintro rfl;exact hxn HXN.out,hrec,HS.out.below HB04.out,HO4.out,HB34.out.size,HB.out.below HB04.out,views_read (own_views HMO.out) (by have:=HL.out;omega),
      fun x hx => by obtain ⟨-,f2,f3,-⟩:=(HVO.out x (hxm x hx)).facts;exact ⟨f2,f3⟩,fun x hx => all_thin fs l x (by rw [← HALL.out];exact hxm x hx),hsx,HL.out,by have:=HGL.out k;have:=HL.out;omega⟩
    have hnF:=norm_field HSR.out HRE.out hnf
    rw [show f.val = .agg #[.string f.name,.int .i64 f.number,.int .i64 f.kind,.bool f.rep,.bool f.packed,.int .i64 f.of] from rfl] at hnF
    have HNFC:=hid hnF
    have e0:=HF4.out.cell 0 _ rfl
    have e2:=HF4.out.cell 2 _ rfl
    have e3:=HF4.out.cell 3 _ rfl
    have e4:=HF4.out.cell 4 _ rfl
    have e5:=HF4.out.cell 5 _ rfl
    clear hnf hnF hxn hlk pp0 ppl
    go_wp2_with (go_at_call 87;refine HNFC.out.mono ?_;rintro e W5 ⟨v5,rfl,hO5,hb5⟩;obtain ⟨a5,n5,c5,rfl⟩:=own_form' hO5;have HO5:=hid hO5;have HB5:=hid hb5;clear hO5 hb5)
    go_roundw
    case rel => exact ⟨k + 1,_,_,_,by go_num,rfl,by omega,by rw [HTK.out,HGQ.out];exact HO5.out,HB34.out.trans (HB5.out.mono HB34.out.size)⟩
    case measure => simp [intOf];omega
  ·
   obtain rfl:k = fn:=by omega
   have hO:=HI.out.1
   rw [show (sortedF fs).take k = sortedF fs from by rw [HFN.out,← sortedF_len,List.take_length]] at hO
   have hU:=(HUN.out.below_of hbr)
   have hul:(unkOf l all).length ≤ 1073741824:=by
    have h1:=unkOf_le l all
    have h2:=all_vsum fs l
    rw [← HALL.out] at h2
    have:=HL.out
    omega
   have hol:((sortedF fs).flatMap g).length ≤ 32212254720:=by
    have:=HGL.out fs.length
    rwa [← sortedF_len,List.take_length] at this
   obtain ⟨v6,w6,hr6,hO6,hg6,-⟩:=own_append hO (hU.bytes (by omega)) (by omega) HI.out.2.size
   obtain ⟨a6,n6,c6,rfl⟩:=own_form' hO6
   have HR6:=hid hr6
   have HE:=hid (HEND.out _ w6 W3.heap.size HB3.out.size hO6 (HB3.out.trans ((HI.out.2.grown hg6 HI.out.2.size fun q e => (World.ownsRow.lt hO q e).1).mono HB3.out.size)))
   clear hO hU hul hol hr6 hO6 hg6 hkp hbr hb0 p0
   go_wp2_with (at_builtin;refine wpList_append_eq rfl _ _ _ rfl _ _ rfl rfl HR6.out ?_)
   exact HE.out
theorem norm_form {s:List Mes} (hs:sright s = true):∀ d,FormOk s d
 | 0 => norm_form_step hs 0 fun _ h => by cases h
 | d + 1 => norm_form_step hs (d + 1) fun d' h => by
  obtain rfl:d = d':=by omega
  exact norm_form hs d
end Go.Proofs.YtfimpmennkfjcaaGreatDoor
