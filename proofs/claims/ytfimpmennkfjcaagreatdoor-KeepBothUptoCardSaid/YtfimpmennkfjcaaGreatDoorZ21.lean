/- Parts of a proof: texts of the author, merged. No condition of their own. -/
import Derived.Test.YtfimpmennkfjcaaGreatDoorZ13
import Derived.Test.YtfimpmennkfjcaaGreatDoorZ17
import Derived.Test.YtfimpmennkfjcaaGreatDoorZ20
import Derived.Deep.CutBlock
namespace Go.Proofs.YtfimpmennkfjcaaGreatDoor
open Go.RowKit
theorem msg_form {d:Nat} {w:World} {v1 v2:Value} {x:M d} (h:MsgAt d w (.agg #[v1,v2]) x):∃ a n c a' n' c',v1 = .slice a n c ∧ v2 = .slice a' n' c':=by
 cases d with
 | zero => exact h.elim
 | succ d =>
  obtain ⟨vv,uv,e,hV,hU⟩:=h
  cases e
  obtain ⟨-,va,vc,rfl,-,-⟩:=hV.open
  obtain ⟨-,ua,uc,rfl,-,-⟩:=hU.open
  exact ⟨_,_,_,_,_,_,rfl,rfl⟩
theorem wire_two {k:Int} (h:kright k = true) (hk:knumber k = false):kwire k = 2:=by
 unfold kright at h
 unfold knumber at hk
 simp at h hk
 unfold kwire
 rw [if_neg (by omega),if_pos (by omega)]
end Go.Proofs.YtfimpmennkfjcaaGreatDoor
namespace Go.Proofs.YtfimpmennkfjcaaGreatDoor
open Go.RowKit
theorem flatMap_single {α β:Type} {g:α → List β} {h:α → β}:∀ {l:List α},(∀ x ∈ l,g x = [h x]) → l.flatMap g = l.map h
 | [],_ => rfl
 | x :: r,hx => by rw [List.flatMap_cons,List.map_cons,hx x (by simp),flatMap_single fun y hy => hx y (by simp [hy])];rfl
theorem rfits2 (t:List UInt8):rfits ((2:Nat):Int) t = true:=by unfold rfits;simp
def recsV {α:Type} (E:Int → α → List UInt8) (f:Fld) (q:Nat) (x:Val α):List AR:=
 if knumber f.kind = true then (if f.rep = true then [⟨q,true,kpack f.kind x.words,rput f.number 2 (kpack f.kind x.words)⟩] else [⟨q,false,kput f.kind (x.words.getD 0 0),rput f.number (kwire f.kind) (kput f.kind (x.words.getD 0 0))⟩])
 else x.texts.map (fun t => ⟨q,false,t,rput f.number 2 t⟩) ++ x.subs.map fun y => ⟨q,false,E f.of y,rput f.number 2 (E f.of y)⟩
theorem arecs_encV {α:Type} {E:Int → α → List UInt8} {fs:List Fld} {q:Nat} {f:Fld} {x:Val α} (hf:f = fs.getD q .zero) (hn:fieldAt fs f.number = q) (hk:kright f.kind = true) (hnum:1 ≤ f.number ∧ f.number ≤ 536870911)
  (hw:∀ w ∈ x.words,w < 2 ^ 64) (hwl:x.words.length ≤ 1099511627776) (htl:∀ t ∈ x.texts,t.length < 2 ^ 64) (hsl:∀ y ∈ x.subs,(E f.of y).length < 2 ^ 64) :
  (vall fs (encV E f x)).2.2 = 0 ∧ arecs fs (encV E f x) = recsV E f q x:=by
 obtain ⟨n,hnn⟩:∃ n:Nat,f.number = n:=⟨f.number.toNat,by omega⟩
 have htag:∀ w:Nat,(w = 0 ∨ w = 1 ∨ w = 2 ∨ w = 5) → tagOk n w = true:=fun w h => by unfold tagOk;simp;omega
 have hone:∀ (w:Nat) (t:List UInt8) (run:Bool),(w = 0 ∨ w = 1 ∨ w = 2 ∨ w = 5) → rfits (w:Int) t = true → t.length < 2 ^ 64 → run = (f.rep && knumber f.kind && decide (w = 2)) → (run = true ∨ kwire f.kind = w) →
   (vall fs (rput f.number w t)).2.2 = 0 ∧ arecs fs (rput f.number w t) = [(⟨(q:Int),run,t,rput f.number w t⟩:AR)]:=by
  intro w t run h1 h2 h3 h4 h5
  rw [hnn]
  by_cases hq:q < fs.length
  ·
   exact arecs_rput hq (by rw [← hnn];exact hn) (htag w h1) h2 h3 (by rw [← hf];exact h4) (h5.imp id fun h => ⟨by rw [← hf];exact hk,by rw [← hf];exact h⟩)
  ·
   rcases fieldAt_cases fs f.number with e | ⟨k,h,e,-⟩
   ·
    omega
   ·
    omega
 unfold encV recsV
 by_cases hkn:knumber f.kind = true
 ·
  rw [if_pos hkn,if_pos hkn]
  have hl0:∀ w,w < 2 ^ 64 → (kput f.kind w).length ≤ 10:=fun w h => kput_le f.kind h
  by_cases hr:f.rep = true
  ·
   rw [if_pos hr,if_pos hr]
   have hpl:=kpack_le f.kind x.words hw
   exact hone 2 _ true (by omega) (rfits2 _) (by omega) (by rw [hr,hkn];rfl) (.inl rfl)
  ·
   rw [if_neg hr,if_neg hr]
   have hw0:x.words.getD 0 0 < 2 ^ 64:=by
    cases hx:x.words with
    | nil => simp
    | cons a r => simp;exact hw a (by rw [hx];simp)
   obtain ⟨wn,hwn⟩:∃ wn:Nat,kwire f.kind = wn:=⟨_,rfl⟩
   have hwc:=kwire_015 hkn
   have h1:=kput_fits hkn hw0
   rw [hwn] at h1 ⊢
   have:=hl0 _ hw0
   exact hone wn _ false (by omega) h1 (by omega) (by
    have:decide (wn = 2) = false:=by simp;omega
    rw [this];simp) (.inr hwn)
 ·
  rw [if_neg hkn,if_neg hkn]
  have hk2:kwire f.kind = 2:=by
   have hkf:knumber f.kind = false:=by simpa using hkn
   unfold kright at hk
   unfold knumber at hkf
   simp at hk hkf
   unfold kwire
   rw [if_neg (by omega),if_pos (by omega)]
  have h2:∀ t:List UInt8,t.length < 2 ^ 64 → (vall fs (rput f.number 2 t)).2.2 = 0 ∧ arecs fs (rput f.number 2 t) = [(⟨(q:Int),false,t,rput f.number 2 t⟩:AR)]:=fun t ht =>
   hone 2 t false (by omega) (rfits2 t) ht (by rw [show knumber f.kind = false by simpa using hkn];simp) (.inr hk2)
  have hT:=arecs_flat (fs:=fs) (ls:=x.texts.map (rput f.number 2)) fun l hl => by
   obtain ⟨t,ht,rfl⟩:=List.mem_map.1 hl
   exact (h2 t (htl t ht)).1
  have hS:=arecs_flat (fs:=fs) (ls:=x.subs.map fun y => rput f.number 2 (E f.of y)) fun l hl => by
   obtain ⟨y,hy,rfl⟩:=List.mem_map.1 hl
   exact (h2 _ (hsl y hy)).1
  have hB:=arecs_app hT.1 hS.1
  rw [List.flatMap_def,List.flatMap_def]
  refine ⟨hB.1,hB.2.trans ?_⟩
  rw [hT.2,hS.2,List.flatMap_map,List.flatMap_map]
  rw [flatMap_single (fun t ht => (h2 t (htl t ht)).2),flatMap_single (fun y hy => (h2 _ (hsl y hy)).2)]
end Go.Proofs.YtfimpmennkfjcaaGreatDoor
namespace Go.Proofs.YtfimpmennkfjcaaGreatDoor
open Go.RowKit
theorem fits_cases {α:Type} {R:Int → α → Bool} {f:Fld} {x:Val α} (h:fitsB R f x = true) :
  0 < many x ∧ (f.rep = false → many x ≤ 1) ∧
  ((knumber f.kind = true ∧ x.texts = [] ∧ x.subs = [] ∧ ∀ w ∈ x.words,kcanon f.kind w = w) ∨ (f.kind = 17 ∧ x.words = [] ∧ x.texts = [] ∧ ∀ y ∈ x.subs,R f.of y = true) ∨
   (knumber f.kind = false ∧ f.kind ≠ 17 ∧ (f.kind = 15 ∨ f.kind = 16) ∧ x.words = [] ∧ x.subs = [] ∧ (f.kind = 15 → ∀ t ∈ x.texts,ufirst t = t.length))):=by
 unfold fitsB at h
 by_cases h0:x.words.length + x.texts.length + x.subs.length = 0 ∨ 1 < x.words.length + x.texts.length + x.subs.length ∧ f.rep = false
 ·
  rw [if_pos h0] at h;cases h
 rw [if_neg h0] at h
 have hm:many x = x.words.length + x.texts.length + x.subs.length:=rfl
 refine ⟨by omega,fun hr => ?_,?_⟩
 ·
  rw [hm]
  by_cases h1:1 < x.words.length + x.texts.length + x.subs.length
  ·
   exact absurd (.inr ⟨h1,hr⟩) h0
  ·
   omega
 by_cases hk:knumber f.kind = true
 ·
  rw [if_pos hk] at h
  simp only [Bool.and_eq_true,decide_eq_true_eq,List.all_eq_true,List.length_eq_zero_iff] at h
  exact .inl ⟨hk,h.1.1,h.1.2,h.2⟩
 ·
  rw [if_neg hk] at h
  by_cases h17:f.kind = 17
  ·
   rw [if_pos h17] at h
   simp only [Bool.and_eq_true,decide_eq_true_eq,List.all_eq_true,List.length_eq_zero_iff] at h
   exact .inr (.inl ⟨h17,h.1.1,h.1.2,h.2⟩)
  ·
   rw [if_neg h17] at h
   by_cases h15:f.kind = 15
   ·
    rw [if_pos h15] at h
    simp only [Bool.and_eq_true,decide_eq_true_eq,List.all_eq_true,List.length_eq_zero_iff] at h
    exact .inr (.inr ⟨by simpa using hk,h17,.inl h15,h.1.1,h.1.2,fun _ => h.2⟩)
   ·
    rw [if_neg h15] at h
    simp only [Bool.and_eq_true,decide_eq_true_eq,List.length_eq_zero_iff] at h
    exact .inr (.inr ⟨by simpa using hk,h17,.inr h.1,h.2.1,h.2.2,fun e => absurd e h15⟩)
theorem flat_map_one {α β:Type} (g:α → List β) (h:α → β) (l:List α) (e:∀ x,g x = [h x]):l.flatMap g = l.map h:=flatMap_single fun x _ => e x
theorem counts_one {α:Type} (f:Fld) {l:List α} (h:f.rep = false → l.length ≤ 1):counts f l = l:=by
 unfold counts
 by_cases hr:f.rep = true
 ·
  rw [if_pos hr]
 ·
  rw [if_neg hr]
  have:=h (by simpa using hr)
  unfold lastOf
  rw [show l.length - 1 = 0 by omega,List.drop_zero]
theorem fieldA_enc {α β:Type} {R:Int → α → Bool} {E:Int → α → List UInt8} {sub:Int → List UInt8 → List β} {f:Fld} {q:Nat} {x:Val α} (h:fitsB R f x = true) (hw:∀ w ∈ x.words,w < 2 ^ 64) :
  fieldA sub f (recsV E f q x) = ⟨f.number,x.words,x.texts,x.subs.flatMap fun y => sub f.of (E f.of y)⟩:=by
 obtain ⟨hpos,hone,hc⟩:=fits_cases h
 unfold many at hpos hone
 rcases hc with ⟨hk,h1,h2,h3⟩ | ⟨h17,h1,h2,-⟩ | ⟨hk,h17,-,h1,h2,-⟩
 ·
  have h17:f.kind ≠ 17:=by intro e;rw [e] at hk;exact absurd hk (by decide)
  unfold recsV fieldA
  rw [if_pos hk,if_neg h17,if_neg h17,h1,h2]
  by_cases hr:f.rep = true
  ·
   rw [if_pos hr]
   rw [counts_one f (by intro e;simp)]
   have hm:x.words.map (kcanon f.kind) = x.words:=by
    conv => rhs;rw [← List.map_id x.words]
    exact List.map_congr_left h3
   simp only [List.flatMap_cons,List.flatMap_nil,List.append_nil]
   unfold arW arB
   rw [if_pos rfl,if_pos (.inl rfl),runWords_kpack hk _ hw,hm]
  ·
   have hr':f.rep = false:=by simpa using hr
   rw [if_neg hr]
   rw [counts_one f (by intro e;simp)]
   have hl:=hone hr'
   rw [h1,h2] at hpos hl
   obtain ⟨w,hwx⟩:∃ w,x.words = [w]:=List.length_eq_one_iff.1 (by simp at hpos hl;omega)
   have hw0:w < 2 ^ 64:=hw w (by rw [hwx];simp)
   have hc0:kcanon f.kind w = w:=h3 w (by rw [hwx];simp)
   simp only [List.flatMap_cons,List.flatMap_nil,List.append_nil]
   unfold arW arB
   rw [if_neg (by simp),if_pos hk,if_pos (.inr hk),hwx]
   simp only [List.getD_cons_zero]
   rw [kread_kput hk hw0,hc0]
 ·
  have hk:¬ knumber f.kind = true:=by rw [h17];decide
  unfold recsV fieldA
  rw [if_neg hk,if_pos h17,if_pos h17,h1,h2]
  simp only [List.map_nil,List.nil_append]
  have hW:(counts f (x.subs.map fun y => (⟨(q:Int),false,E f.of y,rput f.number 2 (E f.of y)⟩:AR))).flatMap (arW f) = []:=by
   refine flat_nil _ _ fun z hz => ?_
   have hz':=counts_sub f _ hz
   obtain ⟨y,-,rfl⟩:=List.mem_map.1 hz'
   unfold arW
   rw [if_neg (by simp),if_neg hk]
  rw [hW]
  congr 1
  by_cases hr:f.rep = true
  ·
   rw [if_pos hr,List.flatMap_map]
  ·
   have hr':f.rep = false:=by simpa using hr
   have hl:=hone hr'
   rw [h1,h2] at hpos hl
   obtain ⟨y,hy⟩:∃ y,x.subs = [y]:=List.length_eq_one_iff.1 (by simp at hpos hl;omega)
   rw [if_neg hr,hy]
   simp
 ·
  unfold recsV fieldA
  rw [if_neg (by rw [hk];decide),if_neg h17,if_neg h17,h1,h2]
  simp only [List.map_nil,List.append_nil,List.flatMap_nil]
  rw [counts_one f (by
   intro e
   have:=hone e
   rw [h1,h2] at this
   simp at this ⊢;omega)]
  have hW:(x.texts.map fun t => (⟨(q:Int),false,t,rput f.number 2 t⟩:AR)).flatMap (arW f) = []:=by
   refine flat_nil _ _ fun z hz => ?_
   obtain ⟨y,-,rfl⟩:=List.mem_map.1 hz
   unfold arW
   rw [if_neg (by simp),if_neg (by rw [hk];decide)]
  have hB:(x.texts.map fun t => (⟨(q:Int),false,t,rput f.number 2 t⟩:AR)).flatMap (arB f) = x.texts:=by
   rw [List.flatMap_map]
   rw [flat_map_one _ id _ (fun t => by unfold arB;rw [if_neg (by rw [hk];simp)];rfl),List.map_id]
  rw [hW,hB]
end Go.Proofs.YtfimpmennkfjcaaGreatDoor
namespace Go.Proofs.YtfimpmennkfjcaaGreatDoor
open Go.RowKit
def qOf {α:Type} (fs:List Fld) (v:Val α):Int:=fieldAt fs v.num
structure ValsOk {α:Type} (F:Fld → Val α → Bool) (fs:List Fld) (vals:List (Val α)):Prop where
 at':∀ v ∈ vals,0 ≤ qOf fs v ∧ qOf fs v < fs.length ∧ (fs.getD (qOf fs v).toNat .zero).number = v.num ∧ F (fs.getD (qOf fs v).toNat .zero) v = true
 rise:vals.Pairwise fun a b => a.num < b.num
theorem valsOk_of {α:Type} {F:Fld → Val α → Bool} {fs:List Fld}:∀ {vals:List (Val α)} {last:Int},valsB F fs vals last = true → ValsOk F fs vals ∧ ∀ v ∈ vals,last < v.num
 | [],_,_ => ⟨⟨fun _ h => by simp at h,List.Pairwise.nil⟩,fun _ h => by simp at h⟩
 | v :: r,last,h => by
  unfold valsB at h
  by_cases h0:fieldAt fs v.num < 0 ∨ v.num ≤ last ∨ F (fs.getD (fieldAt fs v.num).toNat .zero) v = false
  ·
   rw [if_pos h0] at h;cases h
  rw [if_neg h0] at h
  obtain ⟨⟨g1,g2⟩,g3⟩:=valsOk_of h
  have h1:0 ≤ fieldAt fs v.num:=by
   by_cases h:fieldAt fs v.num < 0
   ·
    exact absurd (.inl h) h0
   ·
    omega
  have h2:last < v.num:=by
   by_cases h:v.num ≤ last
   ·
    exact absurd (.inr (.inl h)) h0
   ·
    omega
  have h3:F (fs.getD (fieldAt fs v.num).toNat .zero) v = true:=by
   cases e:F (fs.getD (fieldAt fs v.num).toNat .zero) v with
   | true => rfl
   | false => exact absurd (.inr (.inr e)) h0
  refine ⟨⟨fun w hw => ?_,List.pairwise_cons.2 ⟨g3,g2⟩⟩,fun w hw => ?_⟩
  ·
   rcases List.mem_cons.1 hw with rfl | hw
   ·
    rcases fieldAt_cases fs w.num with e | ⟨k,hk,e,hn⟩
    ·
     omega
    ·
     refine ⟨h1,?_,?_,h3⟩
     ·
      show fieldAt fs w.num < _;omega
     ·
      show (fs.getD (fieldAt fs w.num).toNat .zero).number = _
      rw [e,Int.toNat_natCast];exact hn
   ·
    exact g1 w hw
  ·
   rcases List.mem_cons.1 hw with rfl | hw
   ·
    exact h2
   ·
    have:=g3 w hw;omega
theorem filter_flat {α:Type} (Q:α → Int) (R:α → List AR):∀ (vals:List α),(∀ v ∈ vals,∀ r ∈ R v,r.k = Q v) → (vals.map Q).Nodup → ∀ v ∈ vals,(vals.flatMap R).filter (fun r => decide (r.k = Q v)) = R v
 | [],_,_,v,hv => by simp at hv
 | a :: t,hk,hn,v,hv => by
  rw [List.map_cons,List.nodup_cons] at hn
  rw [List.flatMap_cons,List.filter_append]
  have hrest:∀ w:α,(∀ u ∈ t,Q u ≠ Q w) → (t.flatMap R).filter (fun r => decide (r.k = Q w)) = []:=by
   intro w hw
   rw [List.filter_eq_nil_iff]
   intro r hr
   obtain ⟨u,hu,hru⟩:=List.mem_flatMap.1 hr
   have:=hk u (by simp [hu]) r hru
   simp only [decide_eq_true_eq]
   rw [this];exact hw u hu
  rcases List.mem_cons.1 hv with rfl | hv
  ·
   rw [hrest v (fun u hu e => hn.1 (List.mem_map.2 ⟨u,hu,e⟩)),List.append_nil]
   rw [List.filter_eq_self]
   intro r hr
   simpa using hk v (by simp) r hr
  ·
   have h1:(R a).filter (fun r => decide (r.k = Q v)) = []:=by
    rw [List.filter_eq_nil_iff]
    intro r hr
    simp only [decide_eq_true_eq]
    rw [hk a (by simp) r hr]
    intro e
    exact hn.1 (List.mem_map.2 ⟨v,hv,e.symm⟩)
   rw [h1,List.nil_append]
   exact filter_flat Q R t (fun u hu => hk u (by simp [hu])) hn.2 v hv
theorem filter_none {α:Type} (Q:α → Int) (R:α → List AR) (vals:List α) (hk:∀ v ∈ vals,∀ r ∈ R v,r.k = Q v) (i:Int) (hi:∀ v ∈ vals,Q v ≠ i):(vals.flatMap R).filter (fun r => decide (r.k = i)) = []:=by
 rw [List.filter_eq_nil_iff]
 intro r hr
 obtain ⟨u,hu,hru⟩:=List.mem_flatMap.1 hr
 simp only [decide_eq_true_eq]
 rw [hk u hu r hru];exact hi u hu
theorem recsV_k {α:Type} {E:Int → α → List UInt8} {f:Fld} {q:Nat} {x:Val α}:∀ r ∈ recsV E f q x,r.k = (q:Int):=by
 intro r hr
 unfold recsV at hr
 split at hr
 ·
  split at hr <;> (simp at hr;rw [hr])
 ·
  rcases List.mem_append.1 hr with h | h
  ·
   obtain ⟨t,-,rfl⟩:=List.mem_map.1 h;rfl
  ·
   obtain ⟨t,-,rfl⟩:=List.mem_map.1 h;rfl
theorem places {α:Type} {F:Fld → Val α → Bool} {fs:List Fld} {vals:List (Val α)} (h:ValsOk F fs vals):(sortedF fs).filter (fun i => decide (∃ v ∈ vals,qOf fs v = i)) = vals.map (qOf fs):=by
 have hp:(vals.map (qOf fs)).Pairwise (Ahead fs):=by
  rw [List.pairwise_map]
  refine List.Pairwise.imp_of_mem (fun {a b} ha hb hab => ?_) h.rise
  refine .inl ?_
  unfold numAt
  rw [(h.at' a ha).2.2.1,(h.at' b hb).2.2.1];exact hab
 have hs:=(sortF_ok fs fs.length).2
 have hf:((sortedF fs).filter (fun i => decide (∃ v ∈ vals,qOf fs v = i))).Pairwise (Ahead fs):=hs.filter _
 have hnd:∀ {l:List Int},l.Pairwise (Ahead fs) → l.Nodup:=fun {l} hl => List.Pairwise.imp (fun {a b} hab => by rintro rfl;exact Ahead.asymm _ _ hab hab) hl
 refine srt_unique Ahead.asymm hf hp ?_
 refine (List.perm_ext_iff_of_nodup (hnd hf) (hnd hp)).2 fun i => ?_
 rw [List.mem_filter,List.mem_map]
 constructor
 ·
  rintro ⟨-,h2⟩
  simpa using h2
 ·
  rintro ⟨v,hv,rfl⟩
  refine ⟨?_,by simpa using ⟨v,hv,rfl⟩⟩
  have hb:=h.at' v hv
  refine (sortF_ok fs fs.length).1.mem_iff.2 (upTo_mem.2 ⟨hb.1,hb.2.1⟩)
def valTo {α β:Type} (G:Int → α → List β) (fs:List Fld) (v:Val α):Val β:=⟨v.num,v.words,v.texts,v.subs.flatMap (G (fs.getD (qOf fs v).toNat .zero).of)⟩
def recsOf {α:Type} (E:Int → α → List UInt8) (fs:List Fld) (v:Val α):List AR:=recsV E (fs.getD (qOf fs v).toNat .zero) (qOf fs v).toNat v
theorem flat_len1 {α β:Type} (g:α → List β):∀ (l:List α),(∀ x ∈ l,(g x).length = 1) → (l.flatMap g).length = l.length
 | [],_ => rfl
 | x :: r,h => by
  rw [List.flatMap_cons,List.length_append,h x (by simp),flat_len1 g r fun y hy => h y (by simp [hy]),List.length_cons];omega
theorem msgA_enc {α β:Type} {R:Int → α → Bool} {E:Int → α → List UInt8} {sub:Int → List UInt8 → List β} {fs:List Fld} {vals:List (Val α)} {un:List AR} (h:ValsOk (fitsB R) fs vals) (hw:∀ v ∈ vals,∀ w ∈ v.words,w < 2 ^ 64) (hun:∀ r ∈ un,r.k < 0)
  (hsub:∀ v ∈ vals,∀ y ∈ v.subs,(sub (fs.getD (qOf fs v).toNat .zero).of (E (fs.getD (qOf fs v).toNat .zero).of y)).length = 1) :
  msgA sub fs (vals.flatMap (recsOf E fs) ++ un) = ⟨vals.map (valTo (fun o y => sub o (E o y)) fs),un.map AR.whole⟩:=by
 have hk:∀ v ∈ vals,∀ r ∈ recsOf E fs v,r.k = qOf fs v:=fun v hv r hr => by
  have:=recsV_k r hr
  have h1:=(h.at' v hv).1
  rw [this];omega
 have hnd:(vals.map (qOf fs)).Nodup:=by
  rw [← places h]
  refine List.Pairwise.filter _ ?_
  refine List.Pairwise.imp (fun {a b} hab => ?_) (sortF_ok fs fs.length).2
  rintro rfl
  exact Ahead.asymm _ _ hab hab
 have hfl:∀ i:Int,0 ≤ i → (vals.flatMap (recsOf E fs) ++ un).filter (fun r => decide (r.k = i)) = (vals.flatMap (recsOf E fs)).filter (fun r => decide (r.k = i)):=by
  intro i hi
  rw [List.filter_append]
  have:un.filter (fun r => decide (r.k = i)) = []:=by
   rw [List.filter_eq_nil_iff]
   intro r hr
   have:=hun r hr
   simp only [decide_eq_true_eq];omega
  rw [this,List.append_nil]
 have hval:∀ v ∈ vals,fieldA sub (fs.getD (qOf fs v).toNat .zero) ((vals.flatMap (recsOf E fs) ++ un).filter (fun r => decide (r.k = qOf fs v))) = valTo (fun o y => sub o (E o y)) fs v:=by
  intro v hv
  obtain ⟨h1,h2,h3,h4⟩:=h.at' v hv
  rw [hfl _ h1,filter_flat (qOf fs) (recsOf E fs) vals hk hnd v hv]
  unfold recsOf valTo
  rw [fieldA_enc h4 (hw v hv),h3]
 have hmany:∀ v ∈ vals,0 < many (valTo (fun o y => sub o (E o y)) fs v):=by
  intro v hv
  have h4:=(fits_cases (h.at' v hv).2.2.2).1
  unfold many at h4 ⊢
  unfold valTo
  simp only
  rw [flat_len1 _ _ (hsub v hv)]
  exact h4
 unfold msgA
 congr 1
 ·
  have hkey:((sortedF fs).map fun i => fieldA sub (fs.getD i.toNat .zero) ((vals.flatMap (recsOf E fs) ++ un).filter fun x => decide (x.k = i))).filter (fun v => decide (0 < many v)) =
    ((sortedF fs).filter (fun i => decide (∃ v ∈ vals,qOf fs v = i))).map fun i => fieldA sub (fs.getD i.toNat .zero) ((vals.flatMap (recsOf E fs) ++ un).filter fun x => decide (x.k = i)):=by
   rw [List.filter_map]
   congr 1
   refine List.filter_congr fun i hi => ?_
   have hb:=sortedF_mem hi
   simp only [Function.comp]
   by_cases he:∃ v ∈ vals,qOf fs v = i
   ·
    obtain ⟨v,hv,rfl⟩:=he
    refine (decide_eq_true ?_).trans (decide_eq_true ⟨v,hv,rfl⟩).symm
    rw [hval v hv];exact hmany v hv
   ·
    refine (decide_eq_false ?_).trans (decide_eq_false he).symm
    rw [hfl i hb.1,filter_none (qOf fs) (recsOf E fs) vals hk i (fun v hv e => he ⟨v,hv,e⟩)]
    have:many (fieldA sub (fs.getD i.toNat .zero) []) = 0:=by
     unfold many fieldA counts lastOf
     simp
    omega
  rw [hkey,places h,List.map_map]
  exact List.map_congr_left fun v hv => hval v hv
 ·
  rw [List.filter_append]
  have h1:(vals.flatMap (recsOf E fs)).filter (fun x => decide (x.k < 0)) = []:=by
   rw [List.filter_eq_nil_iff]
   intro r hr
   obtain ⟨v,hv,hrv⟩:=List.mem_flatMap.1 hr
   have:=hk v hv r hrv
   have:=(h.at' v hv).1
   simp only [decide_eq_true_eq];omega
  have h2:un.filter (fun x => decide (x.k < 0)) = un:=by
   rw [List.filter_eq_self]
   intro r hr
   simpa using hun r hr
  rw [h1,h2,List.nil_append]
end Go.Proofs.YtfimpmennkfjcaaGreatDoor
namespace Go.Proofs.YtfimpmennkfjcaaGreatDoor
open Go.RowKit
theorem arecs_strange {fs:List Fld} {t:List UInt8} (h:strangeB fs t = true):(vall fs t).2.2 = 0 ∧ ∃ b,arecs fs t = [(⟨-1,false,b,t⟩:AR)]:=by
 unfold strangeB at h
 simp only [Bool.and_eq_true,decide_eq_true_eq] at h
 obtain ⟨⟨h1,h2⟩,h3⟩:=h
 obtain ⟨r,hr⟩:∃ r,rnext t 0 = (r,0):=⟨(rnext t 0).1,Prod.ext rfl h1⟩
 rw [hr] at h2 h3
 simp only at h2 h3
 have hpos:0 < t.length:=by
  rcases rnext_cases t 0 with ⟨hi,er⟩ | ⟨hi,-⟩ | ⟨hi,-⟩
  ·
   rw [er] at hr;simp at hr
  ·
   exact hi
  ·
   exact hi
 have hst:r.start = 0:=by
  rcases rnext_cases t 0 with ⟨hi,er⟩ | ⟨hi,c,et,hc,er⟩ | ⟨hi,k,x,n,et,g1,g2,g3,g4,g5,g6,hcs⟩
  ·
   rw [er] at hr;simp at hr
  ·
   rw [er] at hr;simp at hr;omega
  ·
   rcases hcs with ⟨a,m,c,es,hc,-,-,er⟩ | ⟨a,m,es,-,-,-,-,er⟩ | ⟨a,m,es,e1,e2,e3,er⟩
   ·
    rw [er] at hr;simp at hr;omega
   ·
    rw [er] at hr;simp at hr
   ·
    rw [er] at hr;injection hr with hr _;subst hr;rfl
 have hlook:vlook fs t 0 = (r,-1,false,0):=by
  unfold vlook
  rw [hr]
  simp only
  rw [if_neg (by simp),if_pos h3]
 obtain ⟨N,hN⟩:∃ N,t.length = N + 1:=⟨t.length - 1,by omega⟩
 have hva:vall fs t = ([(⟨r,-1,false⟩:VW)],0,0):=by
  unfold vall
  rw [hN,vallGo_next fs _ _ _ (by omega) (by rw [hlook]),hlook]
  simp only
  rw [vallGo_end fs _ N _ (by omega),if_neg (by simp)]
 refine ⟨by rw [hva],vbytes t ⟨r,-1,false⟩,?_⟩
 unfold arecs
 rw [hva]
 simp only [List.map_cons,List.map_nil]
 unfold arOf
 simp only
 rw [hst,h2,part_all]
theorem msg_enc {β:Type} {s:List Mes} {d m:Nat} {x:M (d + 1)} {sub:Int → List UInt8 → List β} (hs:sright s = true) (hm:m < s.length) (hx:rightB s (d + 1) (m:Int) x = true)
  (hw:∀ v ∈ M.vals x,(∀ w ∈ v.words,w < 2 ^ 64) ∧ v.words.length ≤ 1099511627776 ∧ (∀ t ∈ v.texts,t.length < 2 ^ 64) ∧ ∀ y ∈ v.subs,∀ o:Int,(encM s d o y).length < 2 ^ 64) (hsub:∀ v ∈ M.vals x,∀ y ∈ v.subs,∀ o,(sub o (encM s d o y)).length = 1) :
  (vall (s.getD m .zero).fields (encM s (d + 1) (m:Int) x)).2.2 = 0 ∧
   msgOf sub (s.getD m .zero).fields (encM s (d + 1) (m:Int) x) = ⟨(M.vals x).map (valTo (fun o y => sub o (encM s d o y)) (s.getD m .zero).fields),M.unk x⟩:=by
 unfold rightB at hx
 rw [if_neg (by omega),Int.toNat_natCast,Bool.and_eq_true,List.all_eq_true] at hx
 obtain ⟨hv,hu⟩:=hx
 obtain ⟨fs,HFS⟩:∃ fs,fs = (s.getD m .zero).fields:=⟨_,rfl⟩
 have hN:=schema_Nums hs m hm
 have hright:=fun f hf => sright_field hs m hm f hf
 rw [← HFS] at hv hu hN hright ⊢
 have hok:=(valsOk_of hv).1
 have henc:encM s (d + 1) (m:Int) x = ((M.vals x).map fun v => encV (encM s d) (fs.getD (qOf fs v).toNat .zero) v).flatten ++ (M.unk x).flatten:=by
  show (M.vals x).flatMap _ ++ (M.unk x).flatMap id = _
  rw [Int.toNat_natCast,← HFS,List.flatMap_def,List.flatMap_id]
  rfl
 have hone:∀ v ∈ M.vals x,(vall fs (encV (encM s d) (fs.getD (qOf fs v).toNat .zero) v)).2.2 = 0 ∧ arecs fs (encV (encM s d) (fs.getD (qOf fs v).toNat .zero) v) = recsOf (encM s d) fs v:=by
  intro v hvm
  obtain ⟨h1,h2,h3,h4⟩:=hok.at' v hvm
  obtain ⟨g1,g2,g3,g4⟩:=hw v hvm
  have hq:(qOf fs v).toNat < fs.length:=by omega
  have hkr:=(hright _ (getD_mem fs .zero hq)).1
  have hat:=hN.at hq
  have hnum:1 ≤ (fs.getD (qOf fs v).toNat .zero).number ∧ (fs.getD (qOf fs v).toNat .zero).number ≤ 536870911:=by
   have h5:=(schema_nums hs m hm (qOf fs v).toNat (by rw [← HFS];exact hq)).2
   rw [← HFS] at h5
   unfold numOk at h5
   have:=of_decide_eq_true h5
   omega
  exact arecs_encV rfl hat hkr hnum g1 g2 g3 (fun y hy => g4 y hy _)
 have hA:=arecs_flat (fs:=fs) (ls:=(M.vals x).map fun v => encV (encM s d) (fs.getD (qOf fs v).toNat .zero) v) fun l hl => by
  obtain ⟨v,hvm,rfl⟩:=List.mem_map.1 hl
  exact (hone v hvm).1
 have hU:=arecs_flat (fs:=fs) (ls:=M.unk x) fun t ht => (arecs_strange (hu t ht)).1
 have hB:=arecs_app hA.1 hU.1
 rw [henc]
 refine ⟨hB.1,?_⟩
 rw [← msgA_of,hB.2,hA.2,List.flatMap_map]
 have e1:(M.vals x).flatMap (fun v => arecs fs (encV (encM s d) (fs.getD (qOf fs v).toNat .zero) v)) = (M.vals x).flatMap (recsOf (encM s d) fs):=by
  rw [List.flatMap_def,List.flatMap_def]
  congr 1
  exact List.map_congr_left fun v hvm => (hone v hvm).2
 rw [e1,hU.2,msgA_enc hok (fun v hvm => (hw v hvm).1) (fun r hr => by
  obtain ⟨t,ht,hrt⟩:=List.mem_flatMap.1 hr
  obtain ⟨b,e⟩:=(arecs_strange (hu t ht)).2
  rw [e] at hrt
  simp at hrt
  rw [hrt];show (-1:Int) < 0;omega) (fun v hvm y hy => hsub v hvm y hy _)]
 congr 1
 rw [List.map_flatMap]
 have:∀ l:List (List UInt8),(∀ t ∈ l,strangeB fs t = true) → l.flatMap (fun t => (arecs fs t).map AR.whole) = l:=by
  intro l
  induction l with
  | nil => intro _;rfl
  | cons t r ih =>
   intro h
   obtain ⟨b,e⟩:=(arecs_strange (h t (by simp))).2
   rw [List.flatMap_cons,e,ih fun y hy => h y (by simp [hy])]
   rfl
 exact this _ hu
end Go.Proofs.YtfimpmennkfjcaaGreatDoor
namespace Go.Proofs.YtfimpmennkfjcaaGreatDoor
open Go.RowKit
end Go.Proofs.YtfimpmennkfjcaaGreatDoor
namespace Go.Proofs.YtfimpmennkfjcaaGreatDoor
open Go.RowKit
end Go.Proofs.YtfimpmennkfjcaaGreatDoor
namespace Go.Proofs.YtfimpmennkfjcaaGreatDoor
open Go.RowKit
/-! How long the bytes are. -/
theorem sum_le30 {α:Type} {F:α → List UInt8} {f:α → Nat}:∀ (l:List α),(∀ x ∈ l,(F x).length ≤ 30 * f x) → (l.flatMap F).length ≤ 30 * (l.map f).sum
 | [],_ => by simp
 | x :: r,h => by
  have h1:=h x (by simp)
  have h2:=sum_le30 r fun y hy => h y (by simp [hy])
  rw [List.flatMap_cons,List.length_append,List.map_cons,List.sum_cons]
  omega
theorem rput_le (n x:Int) (t:List UInt8) (h:0 ≤ 8 * n + x ∧ 8 * n + x < 18446744073709551616) (ht:t.length < 18446744073709551616):(rput n x t).length ≤ 20 + t.length:=by
 unfold rput
 have h1:=vput_le (x:=(8 * n + x).toNat) (by omega)
 have h2:=vput_le (x:=t.length) (by omega)
 rw [List.length_append,List.length_append]
 split <;> simp <;> omega
theorem enc_lenV {w:World} {s:List Mes} {d:Nat} (ih:∀ (root:Int) (v:Value) (x:M d),MsgAt d w v x → mwt d x ≤ 1125899906842624 → (encM s d root x).length + 30 ≤ 30 * mwt d x) (f:Fld) (hf:0 ≤ f.number ∧ f.number ≤ 536870911) (v:Value) (x:Val (M d)) (h:ValAt (MsgAt d) w v x)
  (hw:vwt (mwt d) x ≤ 1125899906842624):(encV (encM s d) f x).length ≤ 30 * vwt (mwt d) x:=by
 obtain ⟨wv,tv,sv,rfl,-,hW,hT,hSu⟩:=h
 obtain ⟨-,sa,sc,-,-,hsa⟩:=hSu.open
 have hwt:=hw
 unfold vwt at hwt
 unfold encV
 by_cases hk:knumber f.kind = true
 ·
  rw [if_pos hk]
  cases hr:f.rep with
  | true =>
   rw [if_pos rfl]
   have h1:=kpack_le f.kind x.words hW.2
   have h2:=rput_le f.number 2 (kpack f.kind x.words) (by omega) (by omega)
   unfold vwt
   omega
  | false =>
   rw [if_neg (by decide)]
   have h0:x.words.getD 0 0 < 2 ^ 64:=by
    cases hx:x.words[0]? with
    | none => rw [List.getD,hx];decide
    | some y => rw [List.getD,hx];exact hW.2 y (List.mem_of_getElem? hx)
   have h1:=kput_le f.kind h0
   have h3:kwire f.kind ≤ 5:=by
    unfold kwire
    repeat' split
    all_goals omega
   have h2:=rput_le f.number (kwire f.kind) (kput f.kind (x.words.getD 0 0)) (by omega) (by omega)
   unfold vwt
   omega
 ·
  rw [if_neg hk,List.length_append]
  have h1:(x.texts.flatMap (rput f.number 2)).length ≤ 30 * twt x.texts:=by
   refine sum_le30 _ fun t ht => ?_
   have h3:=mem_sum_le (fun t:List UInt8 => 1 + t.length) x.texts t ht
   unfold twt at hwt
   have h2:=rput_le f.number 2 t (by omega) (by omega)
   show _ ≤ 30 * (1 + t.length)
   omega
  have h2:(x.subs.flatMap fun y => rput f.number 2 (encM s d f.of y)).length ≤ 30 * (x.subs.map (mwt d)).sum:=by
   refine sum_le30 _ fun y hy => ?_
   obtain ⟨k,hk⟩:=List.mem_iff_getElem?.1 hy
   obtain ⟨b,o,v1,v2,-,-,-,hM⟩:=hsa k y hk
   have h3:=mem_sum_le (mwt d) x.subs y hy
   have h4:=ih f.of _ y hM (by omega)
   have h5:=rput_le f.number 2 (encM s d f.of y) (by omega) (by omega)
   omega
  unfold vwt
  omega
theorem enc_len {w:World} {s:List Mes} (hs:sright s = true):∀ (d:Nat) (root:Int) (v:Value) (x:M d),MsgAt d w v x → mwt d x ≤ 1125899906842624 → (encM s d root x).length + 30 ≤ 30 * mwt d x
 | 0,_,_,_,h,_ => h.elim
 | d + 1,root,v,x,h,hw => by
  obtain ⟨vv,uv,rfl,hV,hU⟩:=h
  obtain ⟨-,va,vc,-,-,hva⟩:=hV.open
  have e:mwt (d + 1) x = 1 + twt (M.unk x) + ((M.vals x).map (vwt (mwt d))).sum:=rfl
  have e2:encM s (d + 1) root x = (M.vals x).flatMap (fun v => encV (encM s d) ((s.getD root.toNat .zero).fields.getD (fieldAt (s.getD root.toNat .zero).fields v.num).toNat .zero) v) ++ (M.unk x).flatMap id:=rfl
  rw [e] at hw ⊢
  rw [e2,List.length_append]
  have h1:((M.unk x).flatMap id).length ≤ 30 * twt (M.unk x):=by
   refine sum_le30 _ fun t _ => ?_
   show t.length ≤ 30 * (1 + t.length)
   omega
  have h2:((M.vals x).flatMap (fun v => encV (encM s d) ((s.getD root.toNat .zero).fields.getD (fieldAt (s.getD root.toNat .zero).fields v.num).toNat .zero) v)).length ≤ 30 * ((M.vals x).map (vwt (mwt d))).sum:=by
   refine sum_le30 _ fun y hy => ?_
   obtain ⟨k,hk⟩:=List.mem_iff_getElem?.1 hy
   obtain ⟨b,o,v1,v2,v3,-,-,-,-,-,hM⟩:=hva k y hk
   have h3:=mem_sum_le (vwt (mwt d)) (M.vals x) y hy
   refine enc_lenV (w:=w) (fun root v x h hw => enc_len hs d root v x h hw) _ ?_ _ y hM (by omega)
   generalize (fieldAt (s.getD root.toNat .zero).fields y.num).toNat = j
   by_cases hr:root.toNat < s.length
   ·
    by_cases hj:j < (s.getD root.toNat .zero).fields.length
    ·
     have hm:(s.getD root.toNat .zero).fields.getD j .zero ∈ (s.getD root.toNat .zero).fields:=by
      have:(s.getD root.toNat .zero).fields.getD j .zero = (s.getD root.toNat .zero).fields[j]:=by rw [List.getD,List.getElem?_eq_getElem hj];rfl
      rw [this];exact List.getElem_mem hj
     have:=sright_num hs root.toNat hr _ hm
     omega
    ·
     have:(s.getD root.toNat .zero).fields.getD j .zero = .zero:=by rw [List.getD,List.getElem?_eq_none (by omega)];rfl
     rw [this];decide
   ·
    have h0:s.getD root.toNat .zero = .zero:=by rw [List.getD,List.getElem?_eq_none (by omega)];rfl
    rw [h0]
    have:(Mes.zero).fields.getD j .zero = Fld.zero:=by simp [Mes.zero]
    rw [this];decide
  omega
end Go.Proofs.YtfimpmennkfjcaaGreatDoor
namespace Go.Proofs.YtfimpmennkfjcaaGreatDoor
open Go.RowKit
def all2 {α β:Type} (S:α → β → Bool):List α → List β → Bool
 | [],[] => true
 | x :: r,y :: t => S x y && all2 S r t
 | _,_ => false
def sameV {α β:Type} (S:α → β → Bool) (x:Val α) (y:Val β):Bool:=decide (x.num = y.num ∧ x.words = y.words ∧ x.texts = y.texts) && all2 S x.subs y.subs
def sameB:(a b:Nat) → M a → M b → Bool
 | 0,_,x,_ => Empty.elim x
 | _ + 1,0,_,y => Empty.elim y
 | a + 1,b + 1,x,y => decide (M.unk x = M.unk y) && all2 (sameV (sameB a b)) (M.vals x) (M.vals y)
def depthV {α:Type} (D:α → Nat) (v:Val α):Nat:=(v.subs.map fun y => D y + 1).foldl max 0
def depthM:(d:Nat) → M d → Nat
 | 0,_ => 0
 | d + 1,x => ((M.vals x).map (depthV (depthM d))).foldl max 0
theorem foldl_max:∀ (l:List Nat) (a:Nat),a ≤ l.foldl max a ∧ ∀ x ∈ l,x ≤ l.foldl max a
 | [],a => ⟨Nat.le_refl _,by simp⟩
 | y :: r,a => by
  obtain ⟨h1,h2⟩:=foldl_max r (max a y)
  rw [List.foldl_cons]
  refine ⟨by omega,fun x hx => ?_⟩
  rcases List.mem_cons.1 hx with rfl | hx
  ·
   omega
  ·
   exact h2 x hx
theorem foldl_le {b:Nat}:∀ (l:List Nat) (a:Nat),a ≤ b → (∀ x ∈ l,x ≤ b) → l.foldl max a ≤ b
 | [],_,h,_ => h
 | x :: r,a,h,hl => by
  rw [List.foldl_cons]
  exact foldl_le r _ (by have:=hl x (by simp);omega) fun y hy => hl y (by simp [hy])
theorem bytes_beq (x y:List UInt8):((⟨x.toArray⟩:ByteArray).toList == (⟨y.toArray⟩:ByteArray).toList) = decide (x = y):=by
 rw [Bool.eq_iff_iff]
 simp [ByteArray.toList_eq]
theorem formM:∀ {d:Nat} {w:World} {v:Value} {x:M d},MsgAt d w v x → ∃ a1 n1 c1 a2 n2 c2,v = .agg #[.slice a1 n1 c1,.slice a2 n2 c2]
 | 0,_,_,_,h => h.elim
 | d + 1,_,_,_,h => by
  obtain ⟨vv,uv,rfl,hV,hU⟩:=h
  obtain ⟨-,va,vc,rfl,-,-⟩:=hV.open
  obtain ⟨-,ua,uc,rfl,-,-⟩:=hU.open
  exact ⟨_,_,_,_,_,_,rfl⟩
theorem formV {d:Nat} {w:World} {m:Int} {v1 v2 v3:Value} {x:Val (M d)} (h:ValAt (MsgAt d) w (.agg #[.int .i64 m,v1,v2,v3]) x):∃ a1 n1 c1 a2 n2 c2 a3 n3 c3,v1 = .slice a1 n1 c1 ∧ v2 = .slice a2 n2 c2 ∧ v3 = .slice a3 n3 c3:=by
 obtain ⟨wv,tv,sv,e,-,hW,hT,hS⟩:=h
 cases e
 obtain ⟨-,wa,wc,rfl,-,-⟩:=hW.open
 obtain ⟨-,ta,tc,rfl,-,-⟩:=hT.open
 obtain ⟨-,sa,sc,rfl,-,-⟩:=hS.open
 exact ⟨_,_,_,_,_,_,_,_,_,rfl,rfl,rfl⟩
end Go.Proofs.YtfimpmennkfjcaaGreatDoor
