/- Parts of a proof: texts of the author, merged. No condition of their own. -/
import Derived.Test.YtfimpmennkfjcaaGreatDoorZ18
import Derived.Test.YtfimpmennkfjcaaGreatDoorZ21
namespace Go.Proofs.YtfimpmennkfjcaaGreatDoor
open Go.RowKit
theorem depth_sub {d:Nat} {x:M (d + 1)} {v:Val (M d)} {y:M d} (hv:v ∈ M.vals x) (hy:y ∈ v.subs):depthM d y + 1 ≤ depthM (d + 1) x:=by
 have h1:=(foldl_max (v.subs.map fun y => depthM d y + 1) 0).2 _ (List.mem_map.2 ⟨y,hy,rfl⟩)
 have h2:=(foldl_max ((M.vals x).map (depthV (depthM d))) 0).2 _ (List.mem_map.2 ⟨v,hv,rfl⟩)
 have h3:depthM (d + 1) x = ((M.vals x).map (depthV (depthM d))).foldl max 0:=rfl
 have h4:depthM d y + 1 ≤ depthV (depthM d) v:=h1
 omega
theorem all2_map {α β:Type} {S:β → α → Bool} (g:α → β):∀ (l:List α),(∀ x ∈ l,S (g x) x = true) → all2 S (l.map g) l = true
 | [],_ => rfl
 | x :: r,h => by
  rw [List.map_cons,all2,h x (by simp),all2_map g r fun y hy => h y (by simp [hy])];rfl
theorem all2_flat {α β:Type} {S:β → α → Bool} (g:α → List β):∀ (l:List α),(∀ x ∈ l,∃ z,g x = [z] ∧ S z x = true) → all2 S (l.flatMap g) l = true
 | [],_ => rfl
 | x :: r,h => by
  obtain ⟨z,e,hz⟩:=h x (by simp)
  rw [List.flatMap_cons,e]
  show (S z x && all2 S (r.flatMap g) r) = true
  rw [hz,all2_flat g r fun y hy => h y (by simp [hy])];rfl
theorem sane {w:World} {s:List Mes} (hs:sright s = true) {d:Nat} {v:Value} {x:M (d + 1)} (h:MsgAt (d + 1) w v x) (hw:mwt (d + 1) x ≤ 1099511627776) :
  ∀ u ∈ M.vals x,((∀ w ∈ u.words,w < 2 ^ 64) ∧ u.words.length ≤ 1099511627776 ∧ (∀ t ∈ u.texts,t.length < 2 ^ 64) ∧ ∀ y ∈ u.subs,∀ o:Int,(encM s d o y).length < 2 ^ 64) ∧ ∀ y ∈ u.subs,mwt d y ≤ 1099511627776 ∧ ∃ v',MsgAt d w v' y:=by
 obtain ⟨vv,uv,rfl,hV,hU⟩:=h
 obtain ⟨-,va,vc,-,-,hva⟩:=hV.open
 intro u hu
 obtain ⟨k,hk⟩:=List.mem_iff_getElem?.1 hu
 obtain ⟨b,o,v1,v2,v3,-,-,-,-,-,hM⟩:=hva k u hk
 obtain ⟨wv,tv,sv,-,-,hW,hT,hSu⟩:=hM
 obtain ⟨-,sa,sc,-,-,hsa⟩:=hSu.open
 have e:mwt (d + 1) x = 1 + twt (M.unk x) + ((M.vals x).map (vwt (mwt d))).sum:=rfl
 have h1:=mem_sum_le (vwt (mwt d)) (M.vals x) u hu
 have hvw:vwt (mwt d) u ≤ 1099511627776:=by omega
 unfold vwt at hvw
 have hsub:∀ y ∈ u.subs,mwt d y ≤ 1099511627776 ∧ ∃ v',MsgAt d w v' y:=by
  intro y hy
  have h2:=mem_sum_le (mwt d) u.subs y hy
  obtain ⟨j,hj⟩:=List.mem_iff_getElem?.1 hy
  obtain ⟨b',o',u1,u2,-,-,-,hm⟩:=hsa j y hj
  exact ⟨by omega,_,hm⟩
 refine ⟨⟨hW.2,by omega,fun t ht => ?_,fun y hy o => ?_⟩,hsub⟩
 ·
  have:=hT.2 t ht;omega
 ·
  obtain ⟨g1,v',g2⟩:=hsub y hy
  have:=enc_len hs d o v' y g2 (by omega)
  omega
theorem tof_enc {w:World} {s:List Mes} (hs:sright s = true):∀ (d k m:Nat) (v:Value) (x:M (d + 1)),MsgAt (d + 1) w v x → mwt (d + 1) x ≤ 1099511627776 → m < s.length → rightB s (d + 1) (m:Int) x = true → depthM (d + 1) x ≤ k →
  sameB (k + 1) (d + 1) (tof s k m (encM s (d + 1) (m:Int) x)) x = true:=by
 intro d
 induction d with
 | zero =>
  intro k m v x h hw hm hr hk
  have hsn:=sane hs h hw
  obtain ⟨-,he⟩:=msg_enc (sub:=tsub s k) hs hm hr (fun u hu => (hsn u hu).1) (fun u _ y _ => Empty.elim y)
  rw [tof_msg,he]
  show (decide (M.unk x = M.unk x) && all2 (sameV (sameB k 0)) ((M.vals x).map _) (M.vals x)) = true
  rw [decide_eq_true rfl,Bool.true_and]
  refine all2_map _ _ fun u hu => ?_
  have hnil:u.subs = []:=by
   cases e:u.subs with
   | nil => rfl
   | cons y r => exact Empty.elim y
  unfold sameV valTo
  simp only [hnil]
  simp [all2]
 | succ d ih =>
  intro k m v x h hw hm hr hk
  have hsn:=sane hs h hw
  have hlen:∀ u ∈ M.vals x,∀ y ∈ u.subs,∃ k',k = k' + 1 ∧ depthM (d + 1) y ≤ k':=fun u hu y hy => by
   have:=depth_sub hu hy
   exact ⟨k - 1,by omega,by omega⟩
  obtain ⟨-,he⟩:=msg_enc (sub:=tsub s k) hs hm hr (fun u hu => (hsn u hu).1) (fun u hu y hy o => by
   obtain ⟨k',rfl,-⟩:=hlen u hu y hy
   rfl)
  have hok:ValsOk (fitsB (rightB s (d + 1))) (s.getD m .zero).fields (M.vals x):=by
   have h1:=hr
   unfold rightB at h1
   rw [if_neg (by omega),Int.toNat_natCast,Bool.and_eq_true] at h1
   exact (valsOk_of h1.1).1
  rw [tof_msg,he]
  show (decide (M.unk x = M.unk x) && all2 (sameV (sameB k (d + 1))) ((M.vals x).map _) (M.vals x)) = true
  rw [decide_eq_true rfl,Bool.true_and]
  refine all2_map _ _ fun u hu => ?_
  obtain ⟨h1,h2,h3,h4⟩:=hok.at' u hu
  unfold sameV valTo
  simp only [and_self,decide_true,Bool.true_and]
  refine all2_flat _ _ fun y hy => ?_
  obtain ⟨k',rfl,hk'⟩:=hlen u hu y hy
  obtain ⟨g1,v',g2⟩:=(hsn u hu).2 y hy
  have hq:(qOf (s.getD m .zero).fields u).toNat < (s.getD m .zero).fields.length:=by omega
  have hof:=of_range hs hm hq
  obtain ⟨o,ho⟩:∃ o:Nat,((s.getD m .zero).fields.getD (qOf (s.getD m .zero).fields u).toNat .zero).of = o:=⟨_,(Int.toNat_of_nonneg hof.1).symm⟩
  have hR:rightB s (d + 1) ((s.getD m .zero).fields.getD (qOf (s.getD m .zero).fields u).toNat .zero).of y = true:=by
   rcases (fits_cases h4).2.2 with ⟨-,-,e,-⟩ | ⟨-,-,-,e⟩ | ⟨-,-,-,-,e,-⟩
   ·
    rw [e] at hy;simp at hy
   ·
    exact e y hy
   ·
    rw [e] at hy;simp at hy
  rw [ho] at hR hof ⊢
  refine ⟨_,rfl,?_⟩
  rw [Int.toNat_natCast]
  exact ih k' o v' y g2 g1 (by omega) hR hk'
end Go.Proofs.YtfimpmennkfjcaaGreatDoor
namespace Go.Proofs.YtfimpmennkfjcaaGreatDoor
open Go.RowKit
theorem vmsg_one {s:List Mes} {d m:Nat} {t:List UInt8} {r:Rec} {k:Int} {run:Bool} (hlook:vlook (s.getD m .zero).fields t 0 = (r,k,run,0)) (hto:r.to = t.length)
  (hv:(vval (vrec s d) (decide (d = 0)) (s.getD m .zero).fields t (r,k,run,0)).2 = 0):(vmsg s d m t).2 = 0:=by
 rw [vmsg_from,vfrom_at]
 by_cases h0:t.length ≤ 0
 ·
  rw [if_pos h0]
 rw [if_neg h0,hlook,if_neg (by simp),if_neg (by rw [hv];simp)]
 simp only
 rw [hto,vfrom_at,if_pos (Nat.le_refl _)]
theorem vmsg_rput {s:List Mes} {d m q n x:Nat} {f:Fld} (hf:f = (s.getD m .zero).fields.getD q .zero) (_hq:q < (s.getD m .zero).fields.length) (hn:fieldAt (s.getD m .zero).fields (n:Int) = q) (ht:tagOk n x = true) {t:List UInt8} (hfit:rfits (x:Int) t = true) (hl:t.length < 2 ^ 64) {run:Bool}
  (hrun:run = (f.rep && knumber f.kind && decide (x = 2))) (hk:run = true ∨ kright f.kind = true ∧ kwire f.kind = x)
  (h1:run = true → (runCount (kwire f.kind) t).2 = 0) (h2:run = false → f.kind = 15 → ufirst t = t.length) (h3:run = false → f.kind = 17 → ∃ d',d = d' + 1 ∧ (vmsg s d' f.of.toNat t).2 = 0) :
  (vmsg s d m (rput n x t)).2 = 0:=by
 obtain ⟨h,e1,e2,e3,e4⟩:=rnext_rput ht hfit hl
 have hlook:vlook (s.getD m .zero).fields (rput n x t) 0 = ((⟨n,x,0,h,h + t.length⟩:Rec),(q:Int),run,0):=by
  unfold vlook
  rw [e1]
  simp only
  rw [if_neg (by simp),hn,if_neg (by omega),Int.toNat_natCast,← hf]
  have e:(f.rep && knumber f.kind && decide (x = 2)) = run:=hrun.symm
  rw [e]
  cases run with
  | true => rfl
  | false =>
   rcases hk with hk | ⟨hk1,hk2⟩
   ·
    cases hk
   ·
    rw [if_neg (by simp),if_neg (by rw [hk1,hk2];simp)]
 refine vmsg_one hlook e2.symm ?_
 unfold vval
 simp only
 rw [if_neg (by omega),Int.toNat_natCast,← hf,e3]
 cases run with
 | true => rw [if_pos rfl];exact h1 rfl
 | false =>
  rw [if_neg (by simp)]
  by_cases h15:f.kind = 15
  ·
   rw [if_pos h15,if_pos (h2 rfl h15)]
  ·
   rw [if_neg h15]
   by_cases h17:f.kind = 17
   ·
    rw [if_pos h17]
    obtain ⟨d',rfl,hd⟩:=h3 rfl h17
    rw [if_neg (by simp)]
    exact hd
   ·
    rw [if_neg h17]
theorem vmsg_encV {α:Type} {E:Int → α → List UInt8} {R:Int → α → Bool} {s:List Mes} {d m q:Nat} {f:Fld} {x:Val α} (hf:f = (s.getD m .zero).fields.getD q .zero) (hq:q < (s.getD m .zero).fields.length) (hn:fieldAt (s.getD m .zero).fields f.number = q) (hk:kright f.kind = true) (hnum:1 ≤ f.number ∧ f.number ≤ 536870911)
  (hw:∀ w ∈ x.words,w < 2 ^ 64) (hwl:x.words.length ≤ 1099511627776) (htl:∀ t ∈ x.texts,t.length < 2 ^ 64) (hsl:∀ y ∈ x.subs,(E f.of y).length < 2 ^ 64) (hfit:fitsB R f x = true)
  (hsub:∀ y ∈ x.subs,∃ d',d = d' + 1 ∧ (vmsg s d' f.of.toNat (E f.of y)).2 = 0):(vmsg s d m (encV E f x)).2 = 0:=by
 obtain ⟨n,hnn⟩:∃ n:Nat,f.number = n:=⟨f.number.toNat,by omega⟩
 have htag:∀ w:Nat,(w = 0 ∨ w = 1 ∨ w = 2 ∨ w = 5) → tagOk n w = true:=fun w h => by unfold tagOk;simp;omega
 have hfc:=(fits_cases hfit).2.2
 unfold encV
 by_cases hkn:knumber f.kind = true
 ·
  have h17:f.kind ≠ 17:=by intro e;rw [e] at hkn;exact absurd hkn (by decide)
  have h15:f.kind ≠ 15:=by intro e;rw [e] at hkn;exact absurd hkn (by decide)
  rw [if_pos hkn,hnn]
  by_cases hr:f.rep = true
  ·
   rw [if_pos hr]
   have hpl:=kpack_le f.kind x.words hw
   exact vmsg_rput (x:=2) (run:=true) hf hq (by rw [← hnn];exact hn) (htag 2 (by omega)) (rfits2 _) (by omega) (by rw [hr,hkn];rfl) (.inl rfl) (fun _ => (runCount_kpack hkn x.words hw).1) (fun e => by cases e) (fun e => by cases e)
  ·
   rw [if_neg hr]
   have hw0:x.words.getD 0 0 < 2 ^ 64:=by
    cases hx:x.words with
    | nil => simp
    | cons a r => simp;exact hw a (by rw [hx];simp)
   obtain ⟨wn,hwn⟩:∃ wn:Nat,kwire f.kind = wn:=⟨_,rfl⟩
   have hwc:=kwire_015 hkn
   have h1:=kput_fits hkn hw0
   rw [hwn] at h1 hwc ⊢
   have:=kput_le f.kind hw0
   exact vmsg_rput (x:=wn) (run:=false) hf hq (by rw [← hnn];exact hn) (htag wn (by omega)) h1 (by omega) (by
    have:decide (wn = 2) = false:=by simp;omega
    rw [this];simp) (.inr ⟨hk,hwn⟩) (fun e => by cases e) (fun _ e => absurd e h15) (fun _ e => absurd e h17)
 ·
  have hkf:knumber f.kind = false:=by simpa using hkn
  have hk2:kwire f.kind = 2:=wire_two hk hkf
  rw [if_neg hkn,hnn]
  have hrun:false = (f.rep && knumber f.kind && decide (2 = 2)):=by rw [hkf];simp
  rw [List.flatMap_def,List.flatMap_def]
  refine vmsg_app (vmsg_flat fun l hl => ?_) (vmsg_flat fun l hl => ?_)
  ·
   obtain ⟨t,ht,rfl⟩:=List.mem_map.1 hl
   refine vmsg_rput (x:=2) (run:=false) hf hq (by rw [← hnn];exact hn) (htag 2 (by omega)) (rfits2 _) (htl t ht) hrun (.inr ⟨hk,hk2⟩) (fun e => by cases e) (fun _ e => ?_) (fun _ e => ?_)
   ·
    rcases hfc with ⟨h,-⟩ | ⟨h,-⟩ | ⟨-,-,-,-,-,h⟩
    ·
     rw [h] at hkf;cases hkf
    ·
     omega
    ·
     exact h e t ht
   ·
    rcases hfc with ⟨h,-⟩ | ⟨-,-,h,-⟩ | ⟨-,h,-⟩
    ·
     rw [h] at hkf;cases hkf
    ·
     rw [h] at ht;simp at ht
    ·
     exact absurd e h
  ·
   obtain ⟨y,hy,rfl⟩:=List.mem_map.1 hl
   refine vmsg_rput (x:=2) (run:=false) hf hq (by rw [← hnn];exact hn) (htag 2 (by omega)) (rfits2 _) (hsl y hy) hrun (.inr ⟨hk,hk2⟩) (fun e => by cases e) (fun _ e => ?_) (fun _ _ => hsub y hy)
   rcases hfc with ⟨h,-⟩ | ⟨h,-⟩ | ⟨-,-,-,-,h,-⟩
   ·
    rw [h] at hkf;cases hkf
   ·
    omega
   ·
    rw [h] at hy;simp at hy
theorem vmsg_strange {s:List Mes} {d m:Nat} {t:List UInt8} (h:strangeB (s.getD m .zero).fields t = true):(vmsg s d m t).2 = 0:=by
 unfold strangeB at h
 simp only [Bool.and_eq_true,decide_eq_true_eq] at h
 obtain ⟨⟨h1,h2⟩,h3⟩:=h
 obtain ⟨r,hr⟩:∃ r,rnext t 0 = (r,0):=⟨(rnext t 0).1,Prod.ext rfl h1⟩
 rw [hr] at h2 h3
 simp only at h2 h3
 have hlook:vlook (s.getD m .zero).fields t 0 = (r,-1,false,0):=by
  unfold vlook
  rw [hr]
  simp only
  rw [if_neg (by simp),if_pos h3]
 refine vmsg_one hlook h2 ?_
 unfold vval
 simp only
 rw [if_pos (by omega)]
theorem vmsg_enc {w:World} {s:List Mes} (hs:sright s = true):∀ (d k m:Nat) (v:Value) (x:M (d + 1)),MsgAt (d + 1) w v x → mwt (d + 1) x ≤ 1099511627776 → m < s.length → rightB s (d + 1) (m:Int) x = true → depthM (d + 1) x ≤ k →
  (vmsg s k m (encM s (d + 1) (m:Int) x)).2 = 0:=by
 have step:∀ (d k m:Nat) (v:Value) (x:M (d + 1)),MsgAt (d + 1) w v x → mwt (d + 1) x ≤ 1099511627776 → m < s.length → rightB s (d + 1) (m:Int) x = true →
   (∀ u ∈ M.vals x,∀ y ∈ u.subs,∀ o:Nat,rightB s d (o:Int) y = true → o < s.length → ∃ k',k = k' + 1 ∧ (vmsg s k' o (encM s d (o:Int) y)).2 = 0) → (vmsg s k m (encM s (d + 1) (m:Int) x)).2 = 0:=by
  intro d k m v x h hw hm hr hrec
  have hsn:=sane hs h hw
  have hr':=hr
  unfold rightB at hr'
  rw [if_neg (by omega),Int.toNat_natCast,Bool.and_eq_true,List.all_eq_true] at hr'
  obtain ⟨hv,hu⟩:=hr'
  have hok:=(valsOk_of hv).1
  have hN:=schema_Nums hs m hm
  have henc:encM s (d + 1) (m:Int) x = ((M.vals x).map fun v => encV (encM s d) ((s.getD m .zero).fields.getD (qOf (s.getD m .zero).fields v).toNat .zero) v).flatten ++ (M.unk x).flatten:=by
   show (M.vals x).flatMap _ ++ (M.unk x).flatMap id = _
   rw [Int.toNat_natCast,List.flatMap_def,List.flatMap_id]
   rfl
  rw [henc]
  refine vmsg_app (vmsg_flat fun l hl => ?_) (vmsg_flat fun t ht => vmsg_strange (hu t ht))
  obtain ⟨u,hum,rfl⟩:=List.mem_map.1 hl
  obtain ⟨h1,h2,h3,h4⟩:=hok.at' u hum
  obtain ⟨g1,g2,g3,g4⟩:=(hsn u hum).1
  have hq:(qOf (s.getD m .zero).fields u).toNat < (s.getD m .zero).fields.length:=by omega
  have hkr:=(sright_field hs m hm _ (getD_mem (s.getD m .zero).fields .zero hq)).1
  have hnum:1 ≤ ((s.getD m .zero).fields.getD (qOf (s.getD m .zero).fields u).toNat .zero).number ∧ ((s.getD m .zero).fields.getD (qOf (s.getD m .zero).fields u).toNat .zero).number ≤ 536870911:=by
   have h5:=(schema_nums hs m hm _ hq).2
   unfold numOk at h5
   have:=of_decide_eq_true h5
   omega
  have hof:=of_range hs hm hq
  refine vmsg_encV rfl hq (hN.at hq) hkr hnum g1 g2 g3 (fun y hy => g4 y hy _) h4 fun y hy => ?_
  obtain ⟨o,ho⟩:∃ o:Nat,((s.getD m .zero).fields.getD (qOf (s.getD m .zero).fields u).toNat .zero).of = o:=⟨_,(Int.toNat_of_nonneg hof.1).symm⟩
  have hR:rightB s d ((s.getD m .zero).fields.getD (qOf (s.getD m .zero).fields u).toNat .zero).of y = true:=by
   rcases (fits_cases h4).2.2 with ⟨-,-,e,-⟩ | ⟨-,-,-,e⟩ | ⟨-,-,-,-,e,-⟩
   ·
    rw [e] at hy;simp at hy
   ·
    exact e y hy
   ·
    rw [e] at hy;simp at hy
  rw [ho] at hR hof ⊢
  rw [Int.toNat_natCast]
  exact hrec u hum y hy o hR (by omega)
 intro d
 induction d with
 | zero =>
  intro k m v x h hw hm hr _
  exact step 0 k m v x h hw hm hr fun u _ y _ => Empty.elim y
 | succ d ih =>
  intro k m v x h hw hm hr hk
  refine step (d + 1) k m v x h hw hm hr fun u hu y hy o hR ho => ?_
  have h1:=depth_sub hu hy
  obtain ⟨g1,v',g2⟩:=(sane hs h hw u hu).2 y hy
  obtain ⟨k',rfl⟩:∃ k',k = k' + 1:=⟨k - 1,by omega⟩
  exact ⟨k',rfl,ih k' o v' y g2 g1 ho hR (by omega)⟩
end Go.Proofs.YtfimpmennkfjcaaGreatDoor
namespace Go.Proofs.YtfimpmennkfjcaaGreatDoor
def ltW:List Int → List Int → Bool
 | [],[] => false
 | [],_ :: _ => true
 | _ :: _,[] => false
 | x :: a,y :: b => if x = y then ltW a b else decide (x < y)
theorem ltW_irrefl:∀ a,ltW a a = false
 | [] => rfl
 | x :: a => by simp [ltW,ltW_irrefl a]
theorem ltW_trans:∀ a b c,ltW a b = true → ltW b c = true → ltW a c = true
 | [],b,[] => by cases b <;> simp [ltW]
 | [],_,_ :: _ => by simp [ltW]
 | _ :: _,[],_ => by simp [ltW]
 | _ :: _,_ :: _,[] => by simp [ltW]
 | x :: a,y :: b,z :: c => by
  have ih:=ltW_trans a b c
  simp only [ltW]
  by_cases h1:x = y
  ·
   subst h1
   by_cases h2:x = z
   ·
    subst h2;simpa using ih
   ·
    simp only [if_true,if_neg h2,decide_eq_true_eq];intro _ h;exact h
  ·
   by_cases h2:y = z
   ·
    subst h2
    simp only [if_true,if_neg h1,decide_eq_true_eq]
    intro h _;exact h
   ·
    by_cases h3:x = z
    ·
     subst h3
     simp only [if_neg h1,if_neg h2,decide_eq_true_eq]
     intro h h';omega
    ·
     simp only [if_neg h1,if_neg h2,if_neg h3,decide_eq_true_eq]
     intro h h';omega
theorem ltW_total:∀ a b,ltW a b = false → ltW b a = false → a = b
 | [],[] => fun _ _ => rfl
 | [],_ :: _ => by simp [ltW]
 | _ :: _,[] => by simp [ltW]
 | x :: a,y :: b => by
  have ih:=ltW_total a b
  simp only [ltW]
  by_cases h1:x = y
  ·
   subst h1;simp only [if_true];intro h h';rw [ih h h']
  ·
   simp only [if_neg h1,if_neg (fun e:y = x => h1 e.symm),decide_eq_false_iff_not]
   intro h h';omega
def beginsW (way pre:List Int):Bool:=decide (pre.length ≤ way.length) && decide (way.take pre.length = pre)
theorem beginsW_iff (way pre:List Int):beginsW way pre = true ↔ pre <+: way:=by
 unfold beginsW
 rw [List.prefix_iff_eq_take]
 simp only [Bool.and_eq_true,decide_eq_true_eq]
 constructor
 ·
  rintro ⟨_,h⟩;exact h.symm
 ·
  intro h
  refine ⟨?_,h.symm⟩
  have h2:=congrArg List.length h
  simp at h2
  omega
theorem prefix_between:∀ u v w:List Int,u <+: w → ltW v u = false → ltW w v = false → u <+: v
 | [],v,_,_,_,_ => List.nil_prefix
 | _ :: _,_,[],h,_,_ => by simp at h
 | x :: u,[],z :: w,h,h1,_ => by simp [ltW] at h1
 | x :: u,y :: v,z :: w,h,h1,h2 => by
  rw [List.cons_prefix_cons] at h
  obtain ⟨rfl,h⟩:=h
  by_cases e:x = y
  ·
   subst e
   simp only [ltW,if_true] at h1 h2
   rw [List.cons_prefix_cons]
   exact ⟨rfl,prefix_between u v w h h1 h2⟩
  ·
   simp only [ltW,if_neg e,if_neg (fun e':y = x => e e'.symm),decide_eq_false_iff_not] at h1 h2
   omega
theorem ltW_prefix:∀ u w:List Int,u <+: w → ltW w u = false
 | [],[],_ => rfl
 | [],_ :: _,_ => rfl
 | _ :: _,[],h => by simp at h
 | x :: u,z :: w,h => by
  rw [List.cons_prefix_cons] at h
  obtain ⟨rfl,h⟩:=h
  simpa [ltW] using ltW_prefix u w h
def Least (l:List (List Int)) (w:List Int):Prop:=w ∈ l ∧ w ≠ [] ∧ ∀ u ∈ l,u ≠ [] → u <+: w → u = w
def IsMask (l o:List (List Int)):Prop:=o.Pairwise (fun a b => ltW a b = true) ∧ ∀ w,w ∈ o ↔ Least l w
theorem sorted_same:∀ {a b:List (List Int)},a.Pairwise (fun a b => ltW a b = true) → b.Pairwise (fun a b => ltW a b = true) → (∀ w,w ∈ a ↔ w ∈ b) → a = b
 | [],[],_,_,_ => rfl
 | [],y :: b,_,_,h => absurd ((h y).2 (by simp)) (by simp)
 | x :: a,[],_,_,h => absurd ((h x).1 (by simp)) (by simp)
 | x :: a,y :: b,ha,hb,h => by
  rw [List.pairwise_cons] at ha hb
  have hxy:x = y:=by
   have h1:=(h x).1 (by simp)
   have h2:=(h y).2 (by simp)
   rcases List.mem_cons.1 h1 with e | h1
   ·
    exact e
   rcases List.mem_cons.1 h2 with e | h2
   ·
    exact e.symm
   have h3:=ltW_trans _ _ _ (ha.1 y h2) (hb.1 x h1)
   rw [ltW_irrefl] at h3
   cases h3
  subst hxy
  have hab:∀ w,w ∈ a ↔ w ∈ b:=fun w => by
   constructor
   ·
    intro hw
    rcases List.mem_cons.1 ((h w).1 (by simp [hw])) with e | hb'
    ·
     subst e
     have:=ha.1 w hw
     rw [ltW_irrefl] at this;cases this
    ·
     exact hb'
   ·
    intro hw
    rcases List.mem_cons.1 ((h w).2 (by simp [hw])) with e | hb'
    ·
     subst e
     have:=hb.1 w hw
     rw [ltW_irrefl] at this;cases this
    ·
     exact hb'
  rw [sorted_same ha.2 hb.2 hab]
theorem IsMask.one {l a b:List (List Int)} (ha:IsMask l a) (hb:IsMask l b):a = b:=
 sorted_same ha.1 hb.1 fun w => (ha.2 w).trans (hb.2 w).symm
def sieveW (o:List (List Int)):List (List Int) → List (List Int)
 | [] => o
 | w :: r => sieveW (if w = [] ∨ (∃ u,o.getLast? = some u ∧ u <+: w) then o else o ++ [w]) r
def Taken (l o:List (List Int)):Prop:=
 o.Pairwise (fun a b => ltW a b = true) ∧ (∀ w ∈ o,w ∈ l ∧ w ≠ []) ∧ (∀ w ∈ l,w ≠ [] → ∃ u ∈ o,u <+: w) ∧ ∀ u ∈ o,∀ v ∈ o,u <+: v → u = v
theorem Taken.mask {l o:List (List Int)} (h:Taken l o):IsMask l o:=by
 obtain ⟨h1,h2,h3,h4⟩:=h
 refine ⟨h1,fun w => ⟨fun hw => ⟨(h2 w hw).1,(h2 w hw).2,fun u hu hn hp => ?_⟩,fun ⟨hw,hn,hl⟩ => ?_⟩⟩
 ·
  obtain ⟨v,hv,hvu⟩:=h3 u hu hn
  have e:=h4 v hv w hw (hvu.trans hp)
  subst e
  exact hp.eq_of_length_le hvu.length_le
 ·
  obtain ⟨v,hv,hvw⟩:=h3 w hw hn
  have e:=hl v (h2 v hv).1 (h2 v hv).2 hvw
  subst e
  exact hv
theorem last_most {o:List (List Int)} (h:o.Pairwise (fun a b => ltW a b = true)) {u v:List Int} (hu:u ∈ o) (hv:o.getLast? = some v):u = v ∨ ltW u v = true:=by
 obtain ⟨r,rfl⟩:∃ r,o = r ++ [v]:=by
  rw [List.getLast?_eq_some_iff] at hv
  exact hv
 rcases List.mem_append.1 hu with h1 | h1
 ·
  exact .inr ((List.pairwise_append.1 h).2.2 u h1 v (by simp))
 ·
  exact .inl (by simpa using h1)
theorem sieve_taken:∀ (r l o:List (List Int)),Taken l o → r.Pairwise (fun a b => ltW b a = false) → (∀ w ∈ l,∀ v ∈ r,ltW v w = false) → Taken (l ++ r) (sieveW o r)
 | [],l,o,h,_,_ => by simpa [sieveW] using h
 | w :: r,l,o,h,hr,hl => by
  have hr':=List.pairwise_cons.1 hr
  rw [sieveW,show l ++ w :: r = (l ++ [w]) ++ r by simp]
  refine sieve_taken r (l ++ [w]) _ ?_ hr'.2 ?_
  ·
   obtain ⟨h1,h2,h3,h4⟩:=h
   split
   ·
    rename_i hc
    refine ⟨h1,fun v hv => ⟨by simp [(h2 v hv).1],(h2 v hv).2⟩,fun v hv hn => ?_,h4⟩
    rcases List.mem_append.1 hv with hv | hv
    ·
     exact h3 v hv hn
    ·
     simp at hv
     subst hv
     rcases hc with e | ⟨u,hu,hp⟩
     ·
      exact absurd e hn
     ·
      exact ⟨u,List.mem_of_getLast? hu,hp⟩
   ·
    rename_i hc
    simp only [not_or,not_exists,not_and] at hc
    -- none that is taken begins w
    have hno:∀ u ∈ o,¬ u <+: w:=by
     intro u hu hp
     have hne:o ≠ []:=fun e => by subst e;simp at hu
     have hg:o.getLast? = some (o.getLast hne):=List.getLast?_eq_some_getLast hne
     have hgm:=List.getLast_mem hne
     rcases last_most h1 hu hg with e | hlt
     ·
      exact hc.2 _ hg (e ▸ hp)
     ·
      have hp2:u <+: o.getLast hne:=by
       refine prefix_between _ _ _ hp ?_ (hl _ (h2 _ hgm).1 w (by simp))
       cases hx:ltW (o.getLast hne) u with
       | false => rfl
       | true =>
        have:=ltW_trans _ _ _ hlt hx
        rw [ltW_irrefl] at this;cases this
      have e:=h4 u hu _ hgm hp2
      rw [← e,ltW_irrefl] at hlt
      cases hlt
    have hnb:∀ u ∈ o,ltW u w = true:=by
     intro u hu
     cases hx:ltW u w with
     | true => rfl
     | false =>
      have e:=ltW_total u w hx (hl u (h2 u hu).1 w (by simp))
      exact absurd (e ▸ List.prefix_refl u) (hno u hu)
    refine ⟨?_,?_,?_,?_⟩
    ·
     rw [List.pairwise_append]
     exact ⟨h1,by simp,fun u hu v hv => by simp at hv;subst hv;exact hnb u hu⟩
    ·
     intro v hv
     rcases List.mem_append.1 hv with hv | hv
     ·
      exact ⟨by simp [(h2 v hv).1],(h2 v hv).2⟩
     ·
      simp at hv;subst hv;exact ⟨by simp,hc.1⟩
    ·
     intro v hv hn
     rcases List.mem_append.1 hv with hv | hv
     ·
      obtain ⟨u,hu,hp⟩:=h3 v hv hn
      exact ⟨u,by simp [hu],hp⟩
     ·
      simp at hv;subst hv;exact ⟨v,by simp,List.prefix_refl v⟩
    ·
     intro u hu0 v hv0 hp
     rcases List.mem_append.1 hu0 with hu | hu <;> rcases List.mem_append.1 hv0 with hv | hv
     ·
      exact h4 u hu v hv hp
     ·
      have e:v = w:=by simpa using hv
      exact absurd (e ▸ hp) (hno u hu)
     ·
      have e:u = w:=by simpa using hu
      have h5:=hnb v hv
      rw [ltW_prefix w v (e ▸ hp)] at h5
      cases h5
     ·
      simp at hu hv;rw [hu,hv]
  ·
   intro u hu v hv
   rcases List.mem_append.1 hu with hu | hu
   ·
    exact hl u hu v (by simp [hv])
   ·
    simp at hu;subst hu;exact hr'.1 v hv
theorem sieve_mask {l:List (List Int)} (h:l.Pairwise (fun a b => ltW b a = false)):IsMask l (sieveW [] l):=by
 have:=sieve_taken l [] [] ⟨by simp,by simp,by simp,by simp⟩ h (by simp)
 simpa using this.mask
theorem IsMask.perm {l l' o:List (List Int)} (hp:∀ w,w ∈ l ↔ w ∈ l') (h:IsMask l o):IsMask l' o:=by
 refine ⟨h.1,fun w => (h.2 w).trans ?_⟩
 unfold Least
 constructor
 ·
  rintro ⟨h1,h2,h3⟩;exact ⟨(hp w).1 h1,h2,fun u hu => h3 u ((hp u).2 hu)⟩
 ·
  rintro ⟨h1,h2,h3⟩;exact ⟨(hp w).2 h1,h2,fun u hu => h3 u ((hp u).1 hu)⟩
def insW (w:List Int):List (List Int) → List (List Int)
 | [] => [w]
 | u :: r => if ltW u w then u :: insW w r else w :: u :: r
theorem insW_mem (w v:List Int):∀ o,v ∈ insW w o ↔ v = w ∨ v ∈ o
 | [] => by simp [insW]
 | u :: r => by
  rw [insW]
  split
  ·
   rw [List.mem_cons,insW_mem w v r,List.mem_cons]
   constructor
   ·
    rintro (h | h | h) <;> simp [h]
   ·
    rintro (h | h | h) <;> simp [h]
  ·
   simp
theorem insW_sorted (w:List Int):∀ o:List (List Int),o.Pairwise (fun a b => ltW a b = true) → w ∉ o → (insW w o).Pairwise (fun a b => ltW a b = true)
 | [],_,_ => by simp [insW]
 | u :: r,h,hn => by
  have h':=List.pairwise_cons.1 h
  rw [insW]
  split
  ·
   rename_i hlt
   rw [List.pairwise_cons]
   refine ⟨fun v hv => ?_,insW_sorted w r h'.2 (fun hx => hn (by simp [hx]))⟩
   rcases (insW_mem w v r).1 hv with e | hv
   ·
    rw [e];exact hlt
   ·
    exact h'.1 v hv
  ·
   rename_i hlt
   have hwu:ltW w u = true:=by
    cases hx:ltW w u with
    | true => rfl
    | false => exact absurd (by simp [ltW_total w u hx (by simpa using hlt)]) hn
   rw [List.pairwise_cons]
   refine ⟨fun v hv => ?_,h⟩
   rcases List.mem_cons.1 hv with e | hv
   ·
    rw [e];exact hwu
   ·
    exact ltW_trans _ _ _ hwu (h'.1 v hv)
def keepW (l:List (List Int)) (i:Nat):Bool:=
 decide ((l.getD i []) ≠ []) && (List.range l.length).all fun k => !(decide (k ≠ i) && decide ((l.getD k []) ≠ []) && beginsW (l.getD i []) (l.getD k []) && (decide ((l.getD k []).length < (l.getD i []).length) || decide (k < i)))
def rOf (l:List (List Int)):Nat → List (List Int)
 | 0 => []
 | n + 1 => if keepW l n then insW (l.getD n []) (rOf l n) else rOf l n
theorem keepW_iff (l:List (List Int)) (i:Nat) (hi:i < l.length):keepW l i = true ↔ Least l (l.getD i []) ∧ ∀ k,k < i → l.getD k [] ≠ l.getD i []:=by
 have hget:∀ k,k < l.length → l.getD k [] ∈ l:=fun k hk => by
  rw [List.getD_eq_getElem?_getD,List.getElem?_eq_getElem hk];exact List.getElem_mem hk
 unfold keepW Least
 simp only [Bool.and_eq_true,decide_eq_true_eq,List.all_eq_true,List.mem_range,Bool.not_eq_true',Bool.and_eq_false_iff,decide_eq_false_iff_not,Bool.or_eq_false_iff]
 constructor
 ·
  rintro ⟨hn,h⟩
  have key:∀ k,k < l.length → k ≠ i → l.getD k [] ≠ [] → l.getD k [] <+: l.getD i [] → ¬ ((l.getD k []).length < (l.getD i []).length) ∧ ¬ k < i:=by
   intro k hk hki hkn hp
   rcases h k hk with ((h1 | h1) | h1) | h1
   ·
    exact absurd hki h1
   ·
    exact absurd hkn h1
   ·
    rw [(beginsW_iff _ _).2 hp] at h1;cases h1
   ·
    exact h1
  refine ⟨⟨hget i hi,hn,fun u hu hun hp => ?_⟩,fun k hk e => ?_⟩
  ·
   obtain ⟨k,hk,e⟩:=List.getElem_of_mem hu
   have e':l.getD k [] = u:=by rw [List.getD_eq_getElem?_getD,List.getElem?_eq_getElem hk];exact e
   by_cases hki:k = i
   ·
    subst hki;exact e'.symm
   ·
    have h5:=(key k hk hki (by rw [e'];exact hun) (by rw [e'];exact hp)).1
    rw [e'] at h5
    exact hp.eq_of_length_le (by omega)
  ·
   exact (key k (by omega) (by omega) (by rw [e];exact hn) (by rw [e];exact List.prefix_refl _)).2 hk
 ·
  rintro ⟨⟨_,hn,hl⟩,hf⟩
  refine ⟨hn,fun k hk => ?_⟩
  by_cases hki:k = i
  ·
   exact .inl (.inl (.inl (fun h => h hki)))
  by_cases hkn:l.getD k [] = []
  ·
   exact .inl (.inl (.inr (fun h => h hkn)))
  cases hb:beginsW (l.getD i []) (l.getD k []) with
  | false => exact .inl (.inr rfl)
  | true =>
   have e:=hl _ (hget k hk) hkn ((beginsW_iff _ _).1 hb)
   exact .inr ⟨by rw [e];omega,fun h => hf k h e⟩
theorem rOf_in (l:List (List Int)):∀ n,n ≤ l.length → (rOf l n).Pairwise (fun a b => ltW a b = true) ∧ ∀ w,w ∈ rOf l n ↔ Least l w ∧ ∃ k,k < n ∧ l.getD k [] = w
 | 0,_ => ⟨by simp [rOf],by simp [rOf]⟩
 | n + 1,hn => by
  obtain ⟨h1,h2⟩:=rOf_in l n (by omega)
  have hk:=keepW_iff l n (by omega)
  rw [rOf]
  cases hx:keepW l n with
  | true =>
   rw [hx] at hk
   obtain ⟨hl,hf⟩:=hk.1 rfl
   refine ⟨insW_sorted _ _ h1 (fun hm => ?_),fun w => ?_⟩
   ·
    obtain ⟨_,k,hk1,hk2⟩:=(h2 _).1 hm
    exact hf k hk1 hk2
   ·
    show w ∈ insW (l.getD n []) (rOf l n) ↔ _
    rw [insW_mem,h2]
    constructor
    ·
     rintro (rfl | ⟨hw,k,hk1,hk2⟩)
     ·
      exact ⟨hl,n,by omega,rfl⟩
     ·
      exact ⟨hw,k,by omega,hk2⟩
    ·
     rintro ⟨hw,k,hk1,hk2⟩
     by_cases e:k = n
     ·
      subst e;exact .inl hk2.symm
     ·
      exact .inr ⟨hw,k,by omega,hk2⟩
  | false =>
   refine ⟨h1,fun w => ?_⟩
   show w ∈ rOf l n ↔ _
   rw [h2]
   constructor
   ·
    rintro ⟨hw,k,hk1,hk2⟩;exact ⟨hw,k,by omega,hk2⟩
   ·
    rintro ⟨hw,k,hk1,hk2⟩
    by_cases e:k = n
    ·
     subst e
     subst hk2
     -- it is least,but not kept: it stands further ahead
     have:¬ ∀ j,j < k → l.getD j [] ≠ l.getD k []:=fun hf => by
      have:=hk.2 ⟨hw,hf⟩
      rw [hx] at this;cases this
     obtain ⟨j,hj⟩:=Classical.not_forall.1 this
     obtain ⟨hj1,hj2⟩:=Classical.not_imp.1 hj
     exact ⟨hw,j,hj1,Classical.not_not.1 hj2⟩
    ·
     exact ⟨hw,k,by omega,hk2⟩
theorem rOf_mask (l:List (List Int)):IsMask l (rOf l l.length):=by
 obtain ⟨h1,h2⟩:=rOf_in l l.length (Nat.le_refl _)
 refine ⟨h1,fun w => (h2 w).trans ⟨fun h => h.1,fun h => ⟨h,?_⟩⟩⟩
 obtain ⟨k,hk,e⟩:=List.getElem_of_mem h.1
 exact ⟨k,hk,by rw [List.getD_eq_getElem?_getD,List.getElem?_eq_getElem hk];exact e⟩
theorem sieve_rOf {l s:List (List Int)} (hp:∀ w,w ∈ s ↔ w ∈ l) (hs:s.Pairwise (fun a b => ltW b a = false)):sieveW [] s = rOf l l.length:=
 ((sieve_mask hs).perm hp).one (rOf_mask l)
def hasW (l:List (List Int)) (w:List Int):Bool:=l.any fun u => decide (0 < u.length) && beginsW w u
theorem hasW_iff (l:List (List Int)) (w:List Int):hasW l w = true ↔ ∃ u ∈ l,u ≠ [] ∧ u <+: w:=by
 unfold hasW
 simp only [List.any_eq_true,Bool.and_eq_true,decide_eq_true_eq,beginsW_iff]
 constructor
 ·
  rintro ⟨u,h1,h2,h3⟩;exact ⟨u,h1,fun e => by subst e;simp at h2,h3⟩
 ·
  rintro ⟨u,h1,h2,h3⟩;exact ⟨u,h1,List.length_pos_iff.2 h2,h3⟩
theorem least_of (l:List (List Int)):∀ (n:Nat) (u:List Int),u.length ≤ n → u ∈ l → u ≠ [] → ∃ v,Least l v ∧ v <+: u
 | 0,u,h,_,hn => absurd (List.length_eq_zero_iff.1 (by omega)) hn
 | n + 1,u,h,hu,hn => by
  by_cases hx:∃ v ∈ l,v ≠ [] ∧ v <+: u ∧ v ≠ u
  ·
   obtain ⟨v,hv,hvn,hp,hne⟩:=hx
   have hlt:v.length < u.length:=by
    have:=hp.length_le
    rcases Nat.lt_or_ge v.length u.length with h | h
    ·
     exact h
    ·
     exact absurd (hp.eq_of_length_le h) hne
   obtain ⟨t,ht,htp⟩:=least_of l n v (by omega) hv hvn
   exact ⟨t,ht,htp.trans hp⟩
  ·
   refine ⟨u,⟨hu,hn,fun v hv hvn hp => ?_⟩,List.prefix_refl u⟩
   exact Classical.byContradiction fun hne => hx ⟨v,hv,hvn,hp,hne⟩
theorem IsMask.has {l o:List (List Int)} (h:IsMask l o) (w:List Int):hasW o w = hasW l w:=by
 rw [Bool.eq_iff_iff,hasW_iff,hasW_iff]
 constructor
 ·
  rintro ⟨u,hu,hn,hp⟩;exact ⟨u,((h.2 u).1 hu).1,hn,hp⟩
 ·
  rintro ⟨u,hu,hn,hp⟩
  obtain ⟨v,hv,hvp⟩:=least_of l u.length u (Nat.le_refl _) hu hn
  exact ⟨v,(h.2 v).2 hv,hv.2.1,hvp.trans hp⟩
theorem IsMask.self {l o:List (List Int)} (h:IsMask l o):IsMask o o:=by
 refine ⟨h.1,fun w => ⟨fun hw => ⟨hw,((h.2 w).1 hw).2.1,fun u hu hn hp => ((h.2 w).1 hw).2.2 u ((h.2 u).1 hu).1 hn hp⟩,fun hw => hw.1⟩⟩
end Go.Proofs.YtfimpmennkfjcaaGreatDoor
namespace Go.Proofs.YtfimpmennkfjcaaGreatDoor
def mOf (l:List (List Int)):List (List Int):=rOf l l.length
theorem mOf_mask (l:List (List Int)):IsMask l (mOf l):=rOf_mask l
theorem insW_len (w:List Int):∀ o,(insW w o).length = o.length + 1
 | [] => rfl
 | u :: r => by
  rw [insW]
  split
  ·
   simp [insW_len w r]
  ·
   simp
theorem rOf_len (l:List (List Int)):∀ n,(rOf l n).length ≤ n
 | 0 => by simp [rOf]
 | n + 1 => by
  have:=rOf_len l n
  rw [rOf]
  split
  ·
   rw [insW_len];omega
  ·
   omega
theorem mOf_len (l:List (List Int)):(mOf l).length ≤ l.length:=rOf_len l _
theorem mOf_has (l:List (List Int)) (w:List Int):hasW (mOf l) w = hasW l w:=(mOf_mask l).has w
theorem mOf_self (l:List (List Int)):mOf (mOf l) = mOf l:=(mOf_mask _).one (mOf_mask l).self
def wholeW (n:Int) (l:List Int):Bool:=decide (l = [n])
def underW (l:List (List Int)) (n:Int):List (List Int):=(l.filter (fun w => decide (1 < w.length) && decide (w.head? = some n))).map List.tail
theorem under_mem (l:List (List Int)) (n:Int) (w:List Int):w ∈ underW l n ↔ w ≠ [] ∧ n :: w ∈ l:=by
 unfold underW
 simp only [List.mem_map,List.mem_filter,Bool.and_eq_true,decide_eq_true_eq]
 constructor
 ·
  rintro ⟨v,⟨h1,h2,h3⟩,rfl⟩
  cases v with
  | nil => simp at h2
  | cons x v =>
   simp at h2 h3
   subst h3
   exact ⟨fun e => by simp at e;subst e;simp at h2,h1⟩
 ·
  rintro ⟨h1,h2⟩
  exact ⟨n :: w,⟨h2,by have:=List.length_pos_iff.2 h1;simp;omega,rfl⟩,rfl⟩
theorem under_sorted {l:List (List Int)} (h:l.Pairwise (fun a b => ltW a b = true)) (n:Int):(underW l n).Pairwise (fun a b => ltW a b = true):=by
 unfold underW
 rw [List.pairwise_map]
 refine List.Pairwise.imp_of_mem ?_ (h.filter _)
 intro a b ha hb hab
 have ha':=(List.mem_filter.1 ha).2
 have hb':=(List.mem_filter.1 hb).2
 simp only [Bool.and_eq_true,decide_eq_true_eq] at ha' hb'
 cases a with
 | nil => simp at ha'
 | cons x a =>
  cases b with
  | nil => simp at hb'
  | cons y b =>
   simp at ha' hb'
   obtain ⟨-,rfl⟩:=ha'
   obtain ⟨-,rfl⟩:=hb'
   simpa [ltW] using hab
theorem under_self (l:List (List Int)) (n:Int):mOf (underW (mOf l) n) = underW (mOf l) n:=by
 refine (mOf_mask _).one ⟨under_sorted (mOf_mask l).1 n,fun w => ⟨fun hw => ?_,fun hw => hw.1⟩⟩
 obtain ⟨h1,h2⟩:=(under_mem _ _ _).1 hw
 refine ⟨hw,h1,fun u hu hn hp => ?_⟩
 obtain ⟨g1,g2⟩:=(under_mem _ _ _).1 hu
 have e:=(((mOf_mask l).2 _).1 h2).2.2 (n :: u) (((mOf_mask l).2 _).1 g2).1 (by simp) (by rw [List.cons_prefix_cons];exact ⟨rfl,hp⟩)
 exact (List.cons.inj e).2
end Go.Proofs.YtfimpmennkfjcaaGreatDoor
namespace Go.Proofs.YtfimpmennkfjcaaGreatDoor
open Go.RowKit
theorem vgo_lt:∀ (l:List UInt8) (i acc:Nat),acc < 128 ^ i → (vgo i acc l).2.2 = 0 → (vgo i acc l).1 < 128 ^ (vgo i acc l).2.1
 | [],i,acc,_,h => by simp [vgo] at h
 | c :: r,i,acc,ha,h => by
  rw [vgo] at h ⊢
  split
  ·
   rename_i h1;rw [if_pos h1] at h;simp at h
  ·
   rename_i h1
   rw [if_neg h1] at h
   split
   ·
    rename_i h2
    show acc + c.toNat * 128 ^ i < 128 ^ (i + 1)
    have h3:c.toNat * 128 ^ i ≤ 127 * 128 ^ i:=Nat.mul_le_mul_right _ (by omega)
    rw [Nat.pow_succ]
    omega
   ·
    rename_i h2
    rw [if_neg h2] at h
    refine vgo_lt r (i + 1) _ ?_ h
    have:=c.toNat_lt
    have h3:(c.toNat - 128) * 128 ^ i ≤ 127 * 128 ^ i:=Nat.mul_le_mul_right _ (by omega)
    rw [Nat.pow_succ]
    omega
theorem vread_lt {l:List UInt8} {x n:Nat} (h:vread l = (x,n,0)):x < 128 ^ n:=by
 have:=vgo_lt l 0 0 (by simp) (by show (vread l).2.2 = 0;rw [h])
 unfold vread at h
 rw [h] at this
 exact this
def tagN (l:List UInt8) (i:Nat):Nat:=(tread (l.drop i)).2.2.1
def kpiece (sub:Int → List (List Int) → List UInt8 → List UInt8) (fs:List Fld) (keep:Bool) (ws:List (List Int)) (l:List UInt8) (x:VW):List UInt8:=
 if x.k < 0 then (if keep = true then [] else part l x.r.start x.r.to) else
 if ws.any (wholeW (fs.getD x.k.toNat .zero).number) = true then (if keep = true then part l x.r.start x.r.to else []) else
 if underW ws (fs.getD x.k.toNat .zero).number ≠ [] ∧ (fs.getD x.k.toNat .zero).kind = 17 ∧ (fs.getD x.k.toNat .zero).rep = false then
  part l x.r.start (x.r.start + tagN l x.r.start) ++ (vput (sub (fs.getD x.k.toNat .zero).of (underW ws (fs.getD x.k.toNat .zero).number) (vbytes l x)).length ++ sub (fs.getD x.k.toNat .zero).of (underW ws (fs.getD x.k.toNat .zero).number) (vbytes l x))
 else if keep = true then [] else part l x.r.start x.r.to
def kpart (s:List Mes) (keep:Bool):Nat → Nat → List (List Int) → List UInt8 → List UInt8
 | 0,m,ws,l => (vall (s.getD m .zero).fields l).1.flatMap (kpiece (fun _ _ _ => []) (s.getD m .zero).fields keep ws l)
 | d + 1,m,ws,l => (vall (s.getD m .zero).fields l).1.flatMap (kpiece (fun o u b => kpart s keep d o.toNat u b) (s.getD m .zero).fields keep ws l)
def ksub (s:List Mes) (keep:Bool):Nat → Int → List (List Int) → List UInt8 → List UInt8
 | 0 => fun _ _ _ => []
 | d + 1 => fun o u b => kpart s keep d o.toNat u b
theorem kpart_eq (s:List Mes) (keep:Bool) (d m:Nat) (ws:List (List Int)) (l:List UInt8):kpart s keep d m ws l = (vall (s.getD m .zero).fields l).1.flatMap (kpiece (ksub s keep d) (s.getD m .zero).fields keep ws l):=by cases d <;> rfl
theorem vallGo_flat (fs:List Fld) (l:List UInt8):∀ (n i:Nat),l.length ≤ n + i → (vallGo fs l n i).2.2 = 0 → ((vallGo fs l n i).1.flatMap fun x => part l x.r.start x.r.to) = l.drop i
 | 0,i,hn,_ => by
  rw [vallGo,List.flatMap_nil,List.drop_of_length_le (by omega)]
 | n + 1,i,hn,h => by
  rw [vallGo] at h ⊢
  by_cases hi:l.length ≤ i
  ·
   rw [if_pos hi,List.flatMap_nil,List.drop_of_length_le hi]
  rw [if_neg hi] at h ⊢
  by_cases hc:(vlook fs l i).2.2.2 = 0
  ·
   rw [if_neg (by omega)] at h ⊢
   simp only at h ⊢
   by_cases hr:(vallGo fs l n (vlook fs l i).1.to).2.2 = 0
   ·
    rw [if_neg (by omega),List.flatMap_cons]
    have hto:=vlook_to fs l i hc
    rw [vallGo_flat fs l n _ (by omega) hr]
    have hst:(vlook fs l i).1.start = i:=by
     rcases vlook_cases fs l i with ⟨c,hc',e,-⟩ | ⟨r,h1,h2,h3,h4,h5,e | ⟨k,run,hk,e,-,h6,h7⟩⟩
     ·
      rw [e] at hc;exact absurd hc hc'
     ·
      rw [e];exact h1
     ·
      rw [e];exact h1
    show part l (vlook fs l i).1.start (vlook fs l i).1.to ++ l.drop (vlook fs l i).1.to = l.drop i
    rw [hst]
    unfold part
    have e:l.drop (vlook fs l i).1.to = (l.drop i).drop ((vlook fs l i).1.to - i):=by rw [List.drop_drop];congr 1;omega
    rw [e,List.take_append_drop]
   ·
    rw [if_pos hr] at h
    exact absurd h hr
  ·
   rw [if_pos hc] at h
   exact absurd h hc
theorem vall_flat {fs:List Fld} {l:List UInt8} (h:(vall fs l).2.2 = 0):((vall fs l).1.flatMap fun x => part l x.r.start x.r.to) = l:=by
 have:=vallGo_flat fs l l.length 0 (by omega) h
 rwa [List.drop_zero] at this
theorem flatMap_le {α β γ:Type} {f:α → List β} {g:α → List γ}:∀ {l:List α},(∀ x ∈ l,(f x).length ≤ (g x).length) → (l.flatMap f).length ≤ (l.flatMap g).length
 | [],_ => by simp
 | x :: r,h => by
  rw [List.flatMap_cons,List.flatMap_cons,List.length_append,List.length_append]
  have h1:=h x (by simp)
  have h2:=flatMap_le (l:=r) fun y hy => h y (by simp [hy])
  omega
theorem rec_shape {l:List UInt8} {i:Nat} {r:Rec} (h:rnext l i = (r,0)):r.start = i ∧ 1 ≤ tagN l i ∧ tagN l i ≤ 10 ∧ i + tagN l i ≤ r.at' ∧ r.at' ≤ r.to ∧ r.to ≤ l.length ∧ (tread (l.drop i)).2.2.2 = 0 ∧ (r.wire = 2 → r.to - r.at' < 128 ^ (r.at' - (i + tagN l i)) ∧ 1 ≤ r.at' - (i + tagN l i)):=by
 unfold tagN
 rcases rnext_cases l i with ⟨hi,er⟩ | ⟨hi,c,et,hc,er⟩ | ⟨hi,k,x,n,et,h1,h2,h3,h4,h5,h6,hcs⟩
 ·
  rw [er] at h;simp at h
 ·
  rw [er] at h;simp at h;omega
 ·
  rcases hcs with ⟨a,m,c,es,hc,-,-,er⟩ | ⟨a,m,es,-,-,-,-,er⟩ | ⟨a,m,es,g1,g2,g3,er⟩
  ·
   rw [er] at h;simp at h;omega
  ·
   rw [er] at h;simp at h
  ·
   rw [er] at h
   injection h with h _
   subst h
   rw [et]
   simp only
   refine ⟨trivial,by omega,by omega,by omega,by omega,by omega,trivial,fun hx => ?_⟩
   subst hx
   have e:i + n + a + m - (i + n + a) = m:=by omega
   have e2:i + n + a - (i + n) = a:=by omega
   rw [e,e2]
   have ev:vread (l.drop (i + n)) = (m,a,0):=by
    unfold rsize at es
    rw [if_neg (by decide),if_neg (by decide),if_neg (by decide)] at es
    generalize vread (l.drop (i + n)) = z at es
    obtain ⟨z1,z2,z3⟩:=z
    simp only [Prod.mk.injEq] at es
    obtain ⟨rfl,rfl,rfl⟩:=es
    rfl
   refine ⟨vread_lt ev,?_⟩
   rcases vread_cases (l.drop (i + n)) with ⟨w,k',e',h0,-⟩ | ⟨c,e',hc⟩
   ·
    rw [ev] at e'
    simp only [Prod.mk.injEq] at e'
    omega
   ·
    rw [ev] at e'
    simp only [Prod.mk.injEq] at e'
    omega
theorem kpiece_le {sub:Int → List (List Int) → List UInt8 → List UInt8} {s:List Mes} {d m:Nat} {keep:Bool} {ws:List (List Int)} {l:List UInt8} {x:VW} (hx:ViewOk s d m l x) (hsub:∀ (k:Nat) (u:List (List Int)),x.k = k → ((s.getD m .zero).fields.getD k .zero).kind = 17 → (sub ((s.getD m .zero).fields.getD k .zero).of u (vbytes l x)).length ≤ (vbytes l x).length) :
  (kpiece sub (s.getD m .zero).fields keep ws l x).length ≤ (part l x.r.start x.r.to).length:=by
 obtain ⟨j,hj⟩:=hx.look
 obtain ⟨f1,f2,f3,f4⟩:=hx.facts
 unfold kpiece
 split
 ·
  split
  ·
   simp
  ·
   exact Nat.le_refl _
 ·
  rename_i hk
  split
  ·
   split
   ·
    exact Nat.le_refl _
   ·
    simp
  ·
   split
   ·
    rename_i hc
    rcases vlook_cases (s.getD m .zero).fields l j with ⟨c,hc',e,-⟩ | ⟨r,h1,h2,h3,h4,h5,e | ⟨k,run,hk',e,-,h6,h7⟩⟩
    ·
     rw [e] at hj;injection hj with e1 e2;injection e2 with e2 e3;injection e3 with e3 e4;exact absurd e4 hc'
    ·
     rw [e] at hj;injection hj with e1 e2;injection e2 with e2 e3;omega
    ·
     rw [e] at hj
     injection hj with e1 e2
     injection e2 with e2 e3
     injection e3 with e3 e4
     subst e1
     obtain ⟨g1,g2,g3,g4,g5,g6,-,g7⟩:=rec_shape h5
     rw [← e2,Int.toNat_natCast] at hc ⊢
     have hrun:run = false:=by
      cases run with
      | false => rfl
      | true => have:=(h6 rfl).2.1;rw [hc.2.1] at this;simp [knumber] at this
     have hw:x.r.wire = 2:=by
      have:=(h7 hrun).2
      rw [hc.2.1] at this
      have h17:kwire 17 = 2:=rfl
      omega
     have hb:(vbytes l x).length = x.r.to - x.r.at':=part_len l _ _ (by omega) (by omega)
     have hv:=hsub k (underW ws ((s.getD m .zero).fields.getD k .zero).number) e2.symm hc.2.1
     generalize sub ((s.getD m .zero).fields.getD k .zero).of (underW ws ((s.getD m .zero).fields.getD k .zero).number) (vbytes l x) = v at *
     have hs:x.r.start = j:=h1
     have h128:=(g7 hw).1
     have hlt:v.length < 128 ^ (x.r.at' - (j + tagN l j)):=by omega
     have ha:=(g7 hw).2
     have hp:=vput_len (x.r.at' - (j + tagN l j) - 1) v.length (by rw [Nat.sub_add_cancel ha];exact hlt)
     rw [hs,List.length_append,List.length_append,part_len _ _ _ (by omega) (by omega),part_len _ _ _ (by omega) (by omega)]
     omega
   ·
    split
    ·
     simp
    ·
     exact Nat.le_refl _
theorem kpart_le {s:List Mes} {keep:Bool}:∀ {d m:Nat} {ws:List (List Int)} {l:List UInt8},(vmsg s d m l).2 = 0 → (kpart s keep d m ws l).length ≤ l.length
 | d,m,ws,l,h => by
  obtain ⟨h1,h2⟩:=vall_ok h
  have hf:=vall_flat h1
  rw [kpart_eq]
  refine Nat.le_trans (flatMap_le (g:=fun x => part l x.r.start x.r.to) fun x hx => kpiece_le (h2 x hx) fun k u hk h17 => ?_) (by rw [hf];exact Nat.le_refl _)
  obtain ⟨d',rfl,hv⟩:=(h2 x hx).sub hk h17
  exact kpart_le hv
end Go.Proofs.YtfimpmennkfjcaaGreatDoor
