/- Parts of a proof: texts of the author, merged. No condition of their own. -/
import Derived.Test.YtfimpmennkfjcaaGreatDoorZ03
import Derived.Test.YtfimpmennkfjcaaGreatDoorZ38
import Derived.BigQuiet
namespace Go.Proofs.YtfimpmennkfjcaaGreatDoor
open Go.RowKit
theorem wayP_len (s:List Mes):∀ (names:List (List UInt8)) (root:Int) (l:List Int),wayP s names root = some l → l.length ≤ names.length
 | [],_,l,h => by simp [wayP] at h;subst h;simp
 | t :: r,root,l,h => by
  rw [wayP] at h
  split at h
  ·
   cases h
  ·
   split at h
   ·
    cases h;simp
   ·
    split at h
    ·
     cases h
    ·
     obtain ⟨l',h1,rfl⟩:=Option.map_eq_some_iff.1 h
     have:=wayP_len s r _ l' h1
     simp;omega
def resolveW (s:List Mes) (root:Int) (p:List UInt8):Option (List Int):=if pathOk p = true then wayP s (sdot p) root else none
theorem resolveW_len {s:List Mes} {root:Int} {p:List UInt8} {l:List Int} (h:resolveW s root p = some l):l.length ≤ 65:=by
 unfold resolveW at h
 split at h
 ·
  rename_i hp
  have h1:=wayP_len s _ _ _ h
  unfold pathOk at hp
  simp at hp
  omega
 ·
  cases h
def resolveC (s:List Mes) (root:Int) (p:List UInt8):Nat × List Int:=if maskArgs s root ≠ 0 then (maskArgs s root,[]) else match resolveW s root p with | some l => (0,l) | none => (10,[])
def ResolvePost (w:World) (x:Nat × List Int) (e:Ending) (w':World):Prop:=∃ v',e = .returned (.tuple #[v',.int .u8 (x.1:Nat)]) ∧ IntsOwn w' w.heap.size v' x.2 ∧ Below w.heap.size w w'
theorem maskArgs_cases (s:List Mes) (root:Int):maskArgs s root = 9 ∨ maskArgs s root = 2 ∨ maskArgs s root = 0 ∧ sright s = true ∧ 0 ≤ root ∧ root < s.length:=by
 unfold maskArgs
 split
 ·
  exact .inl rfl
 ·
  rename_i h
  split
  ·
   exact .inr (.inl rfl)
  ·
   exact .inr (.inr ⟨rfl,by simpa using h,by omega,by omega⟩)
theorem strs_len_le {p:List UInt8} {t:List UInt8} (h:t ∈ sdot p):t.length ≤ p.length:=sdot_mem_len p t h
set_option maxRecDepth 100000 in
set_option maxHeartbeats 4000000 in
theorem mask_Resolve {w:World} {sv:Value} {s:List Mes} (hS:SchemaAt w sv s) (root:Int) (p:List UInt8) (hp:p.length ≤ 1099511627776) :
  Calls Tryz.prog 51 #[sv,.int .i64 root,strV p] w (ResolvePost w (resolveC s root p)):=by
 have HS:=hid hS
 have HAR:=hid (mask_args hS root)
 have HP:=hid hp
 obtain ⟨-,sa,sc,rfl,-⟩:=hS.open
 obtain ⟨n,HN⟩:∃ n,Hid (n = s.length):=⟨_,rfl⟩
 rw [← HN.out] at HS HAR ⊢
 have HVP:Hid (strV p = .string ⟨p.toArray⟩):=rfl
 have HSP:=hid fun W => path_Split (w:=W) p HP.out
 obtain ⟨PS,HPS⟩:∃ PS,Hid (PS = (⟨p.toArray⟩:ByteArray)):=⟨_,rfl⟩
 rw [HVP.out,← HPS.out] at HSP ⊢
 obtain ⟨Q,HQ⟩:∃ Q:Ending → World → Prop,Hid (Q = ResolvePost w (resolveC s root p)):=⟨_,rfl⟩
 rw [← HQ.out]
 have HBAD:Hid (∀ w' (c:Nat),Below w.heap.size w w' → resolveC s root p = (c,[]) → Q (.returned (.tuple #[.slice none 0 0,.int .u8 (c:Int)])) w'):=by
  intro w' c hb h
  rw [HQ.out,h]
  exact ⟨_,rfl,World.ownsRow_nil _ _ _ _,hb⟩
 obtain ⟨ac,HAC⟩:∃ ac,Hid (ac = maskArgs s root):=⟨_,rfl⟩
 rw [← HAC.out] at HAR
 clear hS hp
 rcases maskArgs_cases s root with h | h | ⟨h,hsr,hr0,hr1⟩
 ·
  have HE:Hid (resolveC s root p = (9,[])):=by rw [Hid,resolveC,if_pos (by rw [h];decide),h]
  rw [← HAC.out] at h
  subst h
  go_enter Tryz.func51,Tryz.ntmps51
  go_wp2_with fail
  refine HAR.out.mono ?_
  rintro e w1 ⟨rfl,hb⟩
  have HB:=hid hb
  clear hb
  go_wp2_with fail
  exact HBAD.out _ 9 HB.out HE.out
 ·
  have HE:Hid (resolveC s root p = (2,[])):=by rw [Hid,resolveC,if_pos (by rw [h];decide),h]
  rw [← HAC.out] at h
  subst h
  go_enter Tryz.func51,Tryz.ntmps51
  go_wp2_with fail
  refine HAR.out.mono ?_
  rintro e w1 ⟨rfl,hb⟩
  have HB:=hid hb
  clear hb
  go_wp2_with fail
  exact HBAD.out _ 2 HB.out HE.out
 ·
  have HE:Hid (resolveC s root p = match resolveW s root p with | some l => (0,l) | none => (10,[])):=by rw [Hid,resolveC,if_neg (by rw [h];decide)]
  have HSR:=hid hsr
  rw [← HAC.out] at h
  subst h
  obtain ⟨r,rfl⟩:∃ r:Nat,root = r:=⟨root.toNat,by omega⟩
  have HR1:Hid (r < s.length):=by show _ < _;omega
  clear hsr hr0 hr1
  go_enter Tryz.func51,Tryz.ntmps51
  go_wp2_with fail
  refine HAR.out.mono ?_
  rintro e w1 ⟨rfl,hb⟩
  have HB:=hid hb
  clear hb
  go_wp2_with fail
  refine (HSP.out w1).mono ?_
  rintro e w2 ⟨v2,rfl,hO,hb2⟩
  have HB2:Hid (Below w.heap.size w w2):=below_step HB.out hb2 HB.out.size
  by_cases hok:pathOk p = true
  ·
   rw [if_pos hok] at hO ⊢
   have hn65:(sdot p).length ≤ 65:=by unfold pathOk at hok;simp at hok;exact hok.1
   have hst:=StrsOwn.strs hO (by omega) (fun t ht => by have:=strs_len_le ht;have:=HP.out;omega)
   have HL:=hid (mask_lead (HS.out.below HB2.out) HSR.out hst (by omega) r HR1.out)
   obtain ⟨oa,oc,hoe⟩:=hO.form
   obtain ⟨k,HK⟩:∃ k,Hid (k = (sdot p).length):=⟨_,rfl⟩
   rw [← HK.out] at hoe
   subst hoe
   have HRW:Hid (resolveW s (r:Int) p = wayP s (sdot p) r):=by rw [Hid,resolveW,if_pos hok]
   rw [HRW.out] at HE
   obtain ⟨ow,HOW⟩:∃ ow,Hid (ow = wayP s (sdot p) r):=⟨_,rfl⟩
   rw [← HOW.out] at HE HL
   clear hO hb2 hok hn65 hst
   go_wp2_with fail
   refine HL.out.mono ?_
   rintro e w3 ⟨v3,rfl,hO3,hb3⟩
   have HB3:Hid (Below w.heap.size w w3):=below_step HB2.out hb3 HB2.out.size
   cases ow with
   | none =>
    clear hO3 hb3
    go_wp2_with fail
    exact HBAD.out _ 10 HB3.out HE.out
   | some l =>
    have HO3:Hid (IntsOwn w3 w.heap.size v3 l):=row_mono hO3 HB2.out.size
    obtain ⟨a3,c3,rfl⟩:=hO3.form
    have HFIN:Hid (Q (.returned (.tuple #[.slice a3 l.length c3,.int .u8 0])) w3):=by
     rw [HQ.out,HE.out]
     exact ⟨_,rfl,HO3.out,HB3.out⟩
    clear hO3 hb3
    go_wp2_with fail
    exact HFIN.out
  ·
   rw [if_neg hok]
   have HRW:Hid (resolveW s (r:Int) p = none):=by rw [Hid,resolveW,if_neg hok]
   rw [HRW.out] at HE
   obtain ⟨oa,oc,hoe⟩:=hO.form
   obtain ⟨k,HK⟩:∃ k,Hid (k = (if pathOk p = true then sdot p else []).length):=⟨_,rfl⟩
   rw [← HK.out] at hoe
   subst hoe
   clear hO hb2 hok
   go_wp2_with fail
   exact HBAD.out _ 10 HB2.out HE.out
def waysOf (s:List Mes) (root:Int):List (List UInt8) → Option (List (List Int))
 | [] => some []
 | p :: r => match resolveW s root p with
  | none => none
  | some l => (waysOf s root r).map (l :: ·)
def makeC (s:List Mes) (root:Int) (paths:List (List UInt8)):Nat × List (List Int):=
 if maskArgs s root ≠ 0 then (maskArgs s root,[]) else if 200 < paths.length then (13,[]) else match waysOf s root paths with | some l => (0,mOf l) | none => (10,[])
def MakePost (w:World) (x:Nat × List (List Int)) (e:Ending) (w':World):Prop:=∃ v',e = .returned (.tuple #[maskV v',.int .u8 (x.1:Nat)]) ∧ NewWays w w' v' x.2 ∧ Below w.heap.size w w'
theorem waysOf_light {s:List Mes} {root:Int}:∀ {paths:List (List UInt8)} {l:List (List Int)},waysOf s root paths = some l → l.length = paths.length ∧ ∀ x ∈ l,x.length ≤ 65
 | [],l,h => by simp [waysOf] at h;subst h;simp
 | p :: r,l,h => by
  rw [waysOf] at h
  split at h
  ·
   cases h
  ·
   rename_i x hx
   obtain ⟨l',h1,rfl⟩:=Option.map_eq_some_iff.1 h
   obtain ⟨h2,h3⟩:=waysOf_light h1
   refine ⟨by simp [h2],fun y hy => ?_⟩
   rcases List.mem_cons.1 hy with e | hy
   ·
    rw [e];exact resolveW_len hx
   ·
    exact h3 y hy
theorem ways_step (s:List Mes) (root:Int) (paths:List (List UInt8)) (ws:List (List Int)) (i:Nat) (p:List UInt8) (ow:Option (List Int)) (hd:paths.drop i = p :: paths.drop (i + 1)) (h:waysOf s root paths = (waysOf s root (paths.drop i)).map (ws ++ ·)) (ho:ow = resolveW s root p) :
  waysOf s root paths = ow.bind fun l => (waysOf s root (paths.drop (i + 1))).map ((ws ++ [l]) ++ ·):=by
 rw [h,hd,waysOf,← ho]
 cases ow with
 | none => rfl
 | some l => cases waysOf s root (paths.drop (i + 1)) <;> simp
theorem schema_ok {w:World} {v:Value} {s:List Mes} (h:SchemaAt w v s) (m:Mes) (hm:m ∈ s) (f:Fld) (hf:f ∈ m.fields):f.Ok:=by
 obtain ⟨fv,-,-,-,h4⟩:=h
 obtain ⟨i,hi,e⟩:=List.getElem_of_mem hm
 have:=(h4 i hi).2 f
 rw [List.getD_eq_getElem?_getD,List.getElem?_eq_getElem hi,e] at this
 exact this hf
theorem getD_memM {α:Type} (l:List α) (k:Nat) (d:α) (h:k < l.length):l.getD k d ∈ l:=by
 rw [List.getD_eq_getElem?_getD,List.getElem?_eq_getElem h]
 exact List.getElem_mem h
theorem fieldNamed_mem {s:List Mes} {root:Int} {t:List UInt8} {f:Fld} (h:fieldNamed s root t = some f):∃ m ∈ s,f ∈ m.fields:=by
 unfold fieldNamed at h
 split at h
 ·
  rename_i h0
  simp only [Option.some.injEq] at h
  obtain ⟨k,hk,hkl⟩:∃ k:Nat,namedAt (s.getD root.toNat .zero).fields ⟨t.toArray⟩ = k ∧ k < (s.getD root.toNat .zero).fields.length:=by
   rcases firstAt_bd (fun f:Fld => decide (f.name = ⟨t.toArray⟩)) (s.getD root.toNat .zero).fields 0 with h | ⟨j,h,h1,h2⟩
   ·
    unfold namedAt at h0;omega
   ·
    exact ⟨j,h,by omega⟩
  rw [hk,Int.toNat_natCast] at h
  have hf:f ∈ (s.getD root.toNat .zero).fields:=by
   rw [← h]
   exact getD_memM _ _ _ hkl
  by_cases hr:root.toNat < s.length
  ·
   exact ⟨s.getD root.toNat .zero,getD_memM _ _ _ hr,hf⟩
  ·
   rw [List.getD_eq_getElem?_getD,List.getElem?_eq_none (by omega)] at hf
   simp [Mes.zero] at hf
 ·
  cases h
theorem wayP_ok {s:List Mes} (hs:∀ m ∈ s,∀ f ∈ m.fields,f.Ok):∀ (names:List (List UInt8)) (root:Int) (l:List Int),wayP s names root = some l → ∀ x ∈ l,i64ok x
 | [],_,l,h => by simp [wayP] at h;subst h;simp
 | t :: r,root,l,h => by
  rw [wayP] at h
  split at h
  ·
   cases h
  ·
   rename_i f hf
   obtain ⟨m,h1,h2⟩:=fieldNamed_mem hf
   have hfo:i64ok f.number:=(hs m h1 f h2).number
   split at h
   ·
    cases h;simpa using hfo
   ·
    split at h
    ·
     cases h
    ·
     obtain ⟨l',h3,rfl⟩:=Option.map_eq_some_iff.1 h
     have:=wayP_ok hs r _ l' h3
     intro x hx
     rcases List.mem_cons.1 hx with e | hx
     ·
      rw [e];exact hfo
     ·
      exact this x hx
theorem resolveW_ok {w:World} {v:Value} {s:List Mes} (hS:SchemaAt w v s) {root:Int} {p:List UInt8} {l:List Int} (h:resolveW s root p = some l):∀ x ∈ l,i64ok x:=by
 unfold resolveW at h
 split at h
 ·
  exact wayP_ok (schema_ok hS) _ _ _ h
 ·
  cases h
set_option maxRecDepth 100000 in
set_option maxHeartbeats 4000000 in
theorem mask_Make {w:World} {sv pv:Value} {s:List Mes} {paths:List (List UInt8)} (hS:SchemaAt w sv s) (root:Int) (hP:StrsAt w pv paths) (hpl:∀ p ∈ paths,p.length ≤ 1099511627776) :
  Calls Tryz.prog 57 #[sv,.int .i64 root,pv] w (MakePost w (makeC s root paths)):=by
 obtain ⟨wB,HWB⟩:∃ wB,Hid (wB = w.alloc (.cells #[.slice none 0 0] 37)):=⟨_,rfl⟩
 have hB0:Below w.heap.size w wB:=by rw [HWB.out];(repeat (first | with_reducible exact Below.refl _ _ | with_reducible refine Below.setCell ?_ (by first | omega | (simp;omega) | (simp;done)) _ | with_reducible refine Below.alloc ?_ (by first | omega | (simp;omega) | (simp;done)) _ | with_reducible refine below_drewN ?_ _ | with_reducible refine Below.drew ?_))
 have HB0:=hid hB0
 have HSZ:Hid (wB.heap.size = w.heap.size + 1):=by rw [HWB.out];simp [Hid]
 have HBX:Hid (Blk wB w.heap.size [.slice none 0 0] 37):=by rw [HWB.out];exact Blk.new w [.slice none 0 0] _
 have HS:=hid (hS.below hB0)
 have HAR:=hid (mask_args (hS.below hB0) root)
 obtain ⟨-,sa,sc,rfl,-⟩:=hS.open
 obtain ⟨m,HM⟩:∃ m,Hid (m = s.length):=⟨_,rfl⟩
 rw [← HM.out] at HS HAR ⊢
 obtain ⟨hn,pa,pc,rfl,-,hpat⟩:=hP.open
 obtain ⟨n,HN⟩:∃ n,Hid (n = paths.length):=⟨_,rfl⟩
 rw [← HN.out] at hn ⊢
 have HPL:=hid hpl
 have HPAT:=hid hpat
 obtain ⟨Q,HQ⟩:∃ Q:Ending → World → Prop,Hid (Q = MakePost w (makeC s root paths)):=⟨_,rfl⟩
 rw [← HQ.out]
 have HBAD:Hid (∀ w' (c:Nat),Below w.heap.size w w' → makeC s root paths = (c,[]) → Q (.returned (.tuple #[maskV (.slice none 0 0),.int .u8 (c:Int)])) w'):=by
  intro w' c hb h
  rw [HQ.out,h]
  exact ⟨_,rfl,⟨by simp,_,Nat.le_refl _,RowsOwn.nil _ _ _ _ _ _⟩,hb⟩
 obtain ⟨ac,HAC⟩:∃ ac,Hid (ac = maskArgs s root):=⟨_,rfl⟩
 rw [← HAC.out] at HAR
 have HCASES:=hid (maskArgs_cases s root)
 have HRES:=hid fun (W:World) (h:Below w.heap.size w W) (hs:Below wB.heap.size wB W) (p:List UInt8) (hp:p.length ≤ 1099511627776) => mask_Resolve (HS.out.below hs) root p hp
 clear hS hP hpl hpat hB0
 by_cases hac:ac = 0
 ·
  obtain ⟨hsr,hr0,hr1⟩:sright s = true ∧ 0 ≤ root ∧ root < s.length:=by
   rcases HCASES.out with h | h | h
   ·
    rw [← HAC.out,hac] at h;cases h
   ·
    rw [← HAC.out,hac] at h;cases h
   ·
    exact h.2
  have HAZ:Hid (maskArgs s root = 0):=by rw [Hid,← HAC.out];exact hac
  subst hac
  have HE:Hid (makeC s root paths = if 200 < n then (13,[]) else match waysOf s root paths with | some l => (0,mOf l) | none => (10,[])):=by
   rw [Hid,makeC,if_neg (by rw [HAZ.out];decide),HN.out]
  have HRC:Hid (∀ p,resolveC s root p = match resolveW s root p with | some l => (0,l) | none => (10,[])):=fun p => by rw [resolveC,if_neg (by rw [HAZ.out];decide)]
  clear hsr hr0 hr1
  by_cases h200:200 < n
  ·
   rw [if_pos h200] at HE
   go_enter Tryz.func57,Tryz.ntmps57
   go_wp2_with fail
   rw [← HWB.out]
   refine HAR.out.mono ?_
   rintro e w1 ⟨rfl,hb⟩
   have HB:Hid (Below w.heap.size w w1):=HB0.out.trans (hb.mono HB0.out.size)
   have HBX1:=hid (HBX.out.below hb)
   have c0:=HBX1.out.cell 0 _ rfl
   have f0:=HBX1.out.free 0
   have hsz:=HBX1.out.lt
   have HCS:Hid ((w1.setCell ⟨w.heap.size,0,none⟩ (.slice none 0 0)).cell? ⟨w.heap.size,0,none⟩ = some (.slice none 0 0)):=World.cell?_setCell_same' _ _ _ (by rw [c0];rfl)
   have HFIN:=hid (HBAD.out (w1.setCell ⟨w.heap.size,0,none⟩ (.slice none 0 0)) 13 (HB.out.setCell (by simp) _) HE.out)
   clear hb
   go_wp2_with fail
   refine bodyPost_ret (v:=.tuple #[maskV (.slice none 0 0),.int .u8 13]) (by simp [results,Tryz.results57,go_sem,maskV,HCS.out]) rfl HFIN.out
  ·
   rw [if_neg h200] at HE
   have hn200:n ≤ 200:=by omega
   clear h200
   go_enter Tryz.func57,Tryz.ntmps57
   go_wp2_with fail
   rw [← HWB.out]
   refine HAR.out.mono ?_
   rintro e w1 ⟨rfl,hb1⟩
   have HB1:=hid hb1
   clear hb1
   go_wp2_with fail
   go_loopw [9,27] (fun v9 v27 wr => ∃ (i:Nat) (ws:List (List Int)),v27 = .int .i64 i ∧ i ≤ n ∧ Hid (RowsOwn WayP 56 1 0 wB.heap.size wr v9 ws ∧ Below wB.heap.size wB wr ∧ ws.length = i ∧ waysOf s root paths = (waysOf s root (paths.drop i)).map (ws ++ ·))) (fun _ v27 _ => n - (intOf v27).toNat)
   case atStart => exact ⟨0,[],rfl,by omega,RowsOwn.nil _ _ _ _ _ _,HB1.out,rfl,by simp⟩
   case round =>
    obtain ⟨i,ws,rfl,hi,HI⟩:=hrel
    obtain ⟨oa,oc,hoe⟩:=HI.out.1.form
    rw [HI.out.2.2.1] at hoe
    subst hoe
    by_cases hlt:i < n
    ·
     obtain ⟨p,hp⟩:∃ p,paths[i]? = some p:=⟨_,List.getElem?_eq_getElem (by rw [← HN.out];exact hlt)⟩
     obtain ⟨-,b,o,ha,g0⟩:=HPAT.out i p hp
     have hix:=index_run1 Tryz.underlying25 size_strp ha i hlt (cap:=pc)
     have hbw:Below w.heap.size w wr:=HB0.out.trans (HI.out.2.1.mono HB0.out.size)
     have HBW:=hid hbw
     replace g0:=below_keeps hbw _ _ g0
     have HR:=hid (HRES.out wr hbw HI.out.2.1 p (HPL.out p (List.mem_of_getElem? hp)))
     have HD:=hid (drop_at hp)
     rw [HRC.out] at HR
     unfold strV at g0 HR
     obtain ⟨PS,HPS⟩:∃ PS,Hid (PS = (⟨p.toArray⟩:ByteArray)):=⟨_,rfl⟩
     rw [← HPS.out] at g0 HR
     obtain ⟨ow,HOW⟩:∃ ow,Hid (ow = resolveW s root p):=⟨_,rfl⟩
     rw [← HOW.out] at HR
     have HWO:=hid (ways_step s root paths ws i p ow HD.out HI.out.2.2.2 HOW.out)
     have HLEN:Hid (∀ l,ow = some l → l.length ≤ 65):=fun l h => resolveW_len (HOW.out ▸ h)
     have HL64:Hid (∀ l,ow = some l → ∀ x ∈ l,i64ok x):=fun l h => resolveW_ok HS.out (HOW.out ▸ h)
     clear hp ha hbw
     go_wp2_with fail
     refine HR.out.mono ?_
     rintro e w5 ⟨v5,rfl,hO5,hb5⟩
     have HB5:=hid hb5
     cases ow with
     | none =>
      have HE2:Hid (makeC s root paths = (10,[])):=by rw [Hid,HE.out,HWO.out];rfl
      obtain ⟨a5,c5,rfl⟩:=hO5.form
      have HB:Hid (Below w.heap.size w w5):=below_step HBW.out HB5.out HBW.out.size
      have HBX1:=hid ((HBX.out.below HI.out.2.1).below hb5)
      have c0:=HBX1.out.cell 0 _ rfl
      have f0:=HBX1.out.free 0
      have hsz:=HBX1.out.lt
      have HCS:Hid ((w5.setCell ⟨w.heap.size,0,none⟩ (.slice none 0 0)).cell? ⟨w.heap.size,0,none⟩ = some (.slice none 0 0)):=World.cell?_setCell_same' _ _ _ (by rw [c0];rfl)
      have HFIN:=hid (HBAD.out (w5.setCell ⟨w.heap.size,0,none⟩ (.slice none 0 0)) 10 (HB.out.setCell (by simp) _) HE2.out)
      clear hO5 hb5
      go_wp2_with fail
      refine bodyPost_ret (v:=.tuple #[maskV (.slice none 0 0),.int .u8 10]) (by simp [results,Tryz.results57,go_sem,maskV,HCS.out]) rfl HFIN.out
     | some l =>
      obtain ⟨a5,c5,hv5⟩:=hO5.form
      have h65:=HLEN.out l rfl
      subst hv5
      have h64:=HL64.out l rfl
      obtain ⟨a',c',w6,hr,hO6,hB6,hB7⟩:=(HI.out.1).step hb5 (by decide) (Nat.zero_le _) HI.out.2.1.size HI.out.2.2.1 (G:=Tryz.prog) 34 (.slice none 0 0) 24 under_ways info_ints rfl #[.slice a5 l.length c5] rfl (by intro u hu;simp at hu;subst hu;rfl) l (hO5.apart (by show l.length ≤ _;omega) h64) (by omega) (by decide)
      have HREL:Hid (RowsOwn WayP 56 1 0 wB.heap.size w6 (.slice a' (i + 1) c') (ws ++ [l]) ∧ Below wB.heap.size wB w6 ∧ (ws ++ [l]).length = i + 1 ∧ waysOf s root paths = (waysOf s root (paths.drop (i + 1))).map ((ws ++ [l]) ++ ·)):=
       ⟨hO6,HI.out.2.1.trans hB7,by rw [List.length_append,HI.out.2.2.1];rfl,HWO.out⟩
      clear hO5 hb5 h64 hO6 hB6 hB7 h65
      go_wp2_with (at_builtin;refine wpList_append_eq rfl _ _ _ rfl _ _ rfl rfl hr ?_)
      go_roundw
      case rel => exact ⟨i + 1,_,by go_num,hlt,HREL.out⟩
      case measure => simp [intOf];omega
    ·
     obtain rfl:i = n:=by omega
     have HWS:Hid (waysOf s root paths = some ws):=by
      rw [Hid,HI.out.2.2.2,List.drop_eq_nil_of_le (by rw [← HN.out];omega),waysOf];simp
     have HE2:Hid (makeC s root paths = (0,mOf ws)):=by rw [Hid,HE.out,HWS.out]
     have hWO:=RowsOwn.at HI.out.1 (by rw [HI.out.2.2.1];omega) (w':=wr) (fun _ _ _ => rfl)
     have HOF:=hid (mask_Of (show WaysAt wr (.slice oa i oc) ws from hWO) ⟨by rw [HI.out.2.2.1];omega,fun l hl => by have:=(waysOf_light HWS.out).2 l hl;omega⟩)
     have HBX2:=hid (HBX.out.below HI.out.2.1)
     obtain ⟨o,HO⟩:∃ o,Hid (o = mOf ws):=⟨_,rfl⟩
     rw [← HO.out] at HOF HE2
     clear hWO hlt
     go_wp2_with fail
     refine HOF.out.mono ?_
     intro e w3 hp3
     obtain ⟨a3,c3,rfl,-,hb3,hN3⟩:=hp3.open
     obtain ⟨q3,HQ3⟩:∃ q3,Hid (q3 = o.length):=⟨_,rfl⟩
     rw [← HQ3.out] at hN3 ⊢
     have HBX3:=hid (HBX2.out.below hb3)
     have hsz3:=HBX3.out.lt
     have c0:=HBX3.out.cell 0 _ rfl
     have f0:=HBX3.out.free 0
     have hs2:=HI.out.2.1.size
     have HB3:Hid (Below w.heap.size w w3):=(HB0.out.trans (HI.out.2.1.mono HB0.out.size)).trans (hb3.mono (by have:=HSZ.out;omega))
     have HCS:Hid ((w3.setCell ⟨w.heap.size,0,none⟩ (.slice a3 q3 c3)).cell? ⟨w.heap.size,0,none⟩ = some (.slice a3 q3 c3)):=World.cell?_setCell_same' _ _ _ (by rw [c0];rfl)
     have HFIN:Hid (Q (.returned (.tuple #[maskV (.slice a3 q3 c3),.int .u8 0])) (w3.setCell ⟨w.heap.size,0,none⟩ (.slice a3 q3 c3))):=by
      rw [HQ.out,HE2.out]
      exact ⟨_,rfl,hN3.later (by have:=HSZ.out;omega) (by simp) fun b h1 h2 => Below.heap_setCell _ _ _ _ (by show b ≠ w.heap.size;have:=HSZ.out;omega),HB3.out.setCell (by simp) _⟩
     unfold maskV
     clear hp3 hb3 hN3 hs2
     go_wp2_with fail
     refine bodyPost_ret (v:=.tuple #[maskV (.slice a3 q3 c3),.int .u8 0]) (by simp [results,Tryz.results57,go_sem,maskV,HCS.out]) rfl HFIN.out
 ·
  have HE:Hid (makeC s root paths = (ac,[])):=by rw [Hid,makeC,if_pos (by rw [← HAC.out];exact hac),HAC.out]
  have e1:((ac:Int) != 0) = true:=by simp;exact hac
  have e2:((ac:Int) == 0) = false:=by simp;exact hac
  have e3:(ac != 0) = true:=by simp;exact hac
  have hac0:0 < ac:=by omega
  have e4:(ac == 0) = false:=by simp;exact hac
  clear hac
  go_enter Tryz.func57,Tryz.ntmps57
  go_wp2_with fail
  rw [← HWB.out]
  refine HAR.out.mono ?_
  rintro e w1 ⟨rfl,hb⟩
  have HB:Hid (Below w.heap.size w w1):=HB0.out.trans (hb.mono HB0.out.size)
  have HBX1:=hid (HBX.out.below hb)
  have c0:=HBX1.out.cell 0 _ rfl
  have f0:=HBX1.out.free 0
  have hsz:=HBX1.out.lt
  have HCS:Hid ((w1.setCell ⟨w.heap.size,0,none⟩ (.slice none 0 0)).cell? ⟨w.heap.size,0,none⟩ = some (.slice none 0 0)):=World.cell?_setCell_same' _ _ _ (by rw [c0];rfl)
  have HFIN:=hid (HBAD.out (w1.setCell ⟨w.heap.size,0,none⟩ (.slice none 0 0)) ac (HB.out.setCell (by simp) _) HE.out)
  clear hb
  go_wp2_with fail
  refine bodyPost_ret (v:=.tuple #[maskV (.slice none 0 0),.int .u8 (ac:Int)]) (by simp [results,Tryz.results57,go_sem,maskV,HCS.out]) rfl HFIN.out
end Go.Proofs.YtfimpmennkfjcaaGreatDoor
namespace Go.Proofs.YtfimpmennkfjcaaGreatDoor
open Go.RowKit
theorem fieldsFault_apart {n:Nat}:∀ (fs bf:List Fld) (k:Nat),fieldsFault n bf fs k = none → (∀ f ∈ fs,numMet bf f.number = false ∧ nameMet bf f.name = false) ∧ fs.Pairwise (fun a b => a.number ≠ b.number ∧ a.name ≠ b.name)
 | [],_,_,_ => by simp
 | g :: r,bf,k,h => by
  rw [fieldsFault] at h
  by_cases h0:fieldFault n (nameMet bf g.name) (numMet bf g.number) g = 0
  ·
   rw [if_pos h0] at h
   obtain ⟨h1,h2⟩:=fieldsFault_apart r _ _ h
   obtain ⟨-,h3,-,h4⟩:=fieldFault_ok h0
   have hg:∀ f ∈ r,(numMet bf f.number = false ∧ nameMet bf f.name = false) ∧ g.number ≠ f.number ∧ g.name ≠ f.name:=by
    intro f hf
    obtain ⟨h5,h6⟩:=h1 f hf
    unfold numMet at h5 ⊢
    unfold nameMet at h6 ⊢
    rw [List.any_append,Bool.or_eq_false_iff] at h5 h6
    refine ⟨⟨h5.1,h6.1⟩,?_,?_⟩
    ·
     simpa using h5.2
    ·
     simpa using h6.2
   refine ⟨fun f hf => ?_,?_⟩
   ·
    rcases List.mem_cons.1 hf with rfl | hf
    ·
     exact ⟨h4,h3⟩
    ·
     exact (hg f hf).1
   ·
    rw [List.pairwise_cons]
    exact ⟨fun f hf => (hg f hf).2,h2⟩
  ·
   rw [if_neg h0] at h;cases h
theorem sright_apart {s:List Mes} (h:sright s = true) (m:Mes) (hm:m ∈ s):m.fields.Pairwise (fun a b => a.number ≠ b.number ∧ a.name ≠ b.name):=by
 have h0:(scheck s).2.2 = 0:=of_decide_eq_true h
 unfold scheck at h0
 by_cases h1:s.length = 0 ∨ 100 < s.length
 ·
  rw [if_pos h1] at h0;simp at h0
 rw [if_neg h1] at h0
 obtain ⟨h2,-,-⟩:=scheckGo_ok s [] 0 h0 _ hm
 exact (fieldsFault_apart _ _ _ h2).2
def fieldOfNum (s:List Mes) (root:Int) (n:Int):Option Fld:=(s.getD root.toNat .zero).fields.find? fun f => decide (f.number = n)
theorem find_apart:∀ (fs:List Fld),fs.Pairwise (fun a b => a.number ≠ b.number ∧ a.name ≠ b.name) → ∀ f ∈ fs,fs.find? (fun g => decide (g.number = f.number)) = some f
 | [],_,f,h => by simp at h
 | g :: r,hp,f,h => by
  rw [List.pairwise_cons] at hp
  rcases List.mem_cons.1 h with rfl | h
  ·
   simp
  ·
   rw [List.find?_cons_of_neg (by simpa using (hp.1 f h).1)]
   exact find_apart r hp.2 f h
theorem namedAt_get {fs:List Fld} {t:ByteArray} (h:0 ≤ namedAt fs t):∃ k:Nat,namedAt fs t = k ∧ k < fs.length ∧ (fs.getD k .zero).name = t:=by
 unfold namedAt at h ⊢
 have key:∀ (l:List Fld) (i:Nat),firstAt (fun f:Fld => decide (f.name = t)) l i = -1 ∨ ∃ k:Nat,firstAt (fun f:Fld => decide (f.name = t)) l i = ((i + k:Nat):Int) ∧ k < l.length ∧ (l.getD k .zero).name = t:=by
  intro l
  induction l with
  | nil => intro i;exact .inl rfl
  | cons g r ih =>
   intro i
   simp only [firstAt]
   by_cases hg:g.name = t
   ·
    exact .inr ⟨0,by simp [hg],by simp,by simpa using hg⟩
   ·
    rcases ih (i + 1) with h | ⟨k,h1,h2,h3⟩
    ·
     exact .inl (by simp [hg,h])
    ·
     exact .inr ⟨k + 1,by simp [hg,h1];omega,by simp;omega,by simpa using h3⟩
 rcases key fs 0 with h' | ⟨k,h1,h2,h3⟩
 ·
  omega
 ·
  exact ⟨k,by simpa using h1,h2,h3⟩
theorem fieldNamed_num {s:List Mes} (hs:sright s = true) {root:Int} {t:List UInt8} {f:Fld} (h:fieldNamed s root t = some f):fieldOfNum s root f.number = some f ∧ f.name = ⟨t.toArray⟩:=by
 unfold fieldNamed at h
 split at h
 ·
  rename_i h0
  obtain ⟨k,hk,hkl,hn⟩:=namedAt_get h0
  rw [hk,Int.toNat_natCast] at h
  cases h
  refine ⟨?_,hn⟩
  unfold fieldOfNum
  by_cases hr:root.toNat < s.length
  ·
   exact find_apart _ (sright_apart hs _ (getD_memM _ _ _ hr)) _ (getD_memM _ _ _ hkl)
  ·
   have hz:s.getD root.toNat .zero = .zero:=by rw [List.getD_eq_getElem?_getD,List.getElem?_eq_none (by omega)];rfl
   rw [hz] at hkl
   simp [Mes.zero] at hkl
 ·
  cases h
def namesW (s:List Mes):Int → List Int → Option (List (List UInt8))
 | _,[] => some []
 | root,n :: r => match fieldOfNum s root n with
  | none => none
  | some f => if r ≠ [] ∧ (f.rep = true ∨ f.kind ≠ 17) then none else (namesW s f.of r).map (f.name.data.toList :: ·)
theorem wayP_names {s:List Mes} (hs:sright s = true):∀ (names:List (List UInt8)) (root:Int) (w:List Int),wayP s names root = some w → namesW s root w = some names
 | [],root,w,h => by simp [wayP] at h;subst h;rfl
 | t :: r,root,w,h => by
  rw [wayP] at h
  split at h
  ·
   cases h
  ·
   rename_i f hf
   obtain ⟨h1,h2⟩:=fieldNamed_num hs hf
   have hb:f.name.data.toList = t:=by rw [h2]
   split at h
   ·
    rename_i hr
    cases h
    rw [namesW,h1]
    simp [namesW,hb,hr]
   ·
    rename_i hr
    split at h
    ·
     cases h
    ·
     rename_i hc
     obtain ⟨w',h3,rfl⟩:=Option.map_eq_some_iff.1 h
     have h4:=wayP_names hs r _ _ h3
     rw [namesW,h1]
     simp only
     rw [if_neg (fun hh => hc hh.2),h4]
     simp [hb]
end Go.Proofs.YtfimpmennkfjcaaGreatDoor
namespace Go.Proofs.YtfimpmennkfjcaaGreatDoor
open Go.RowKit
def stepK (k:Int × Int):Value:=.agg #[.int .i64 k.1,.int .i64 k.2]
theorem step_equal (w:World) (a b:Int × Int):(Op.equal 155 (stepK a) (stepK b)).run Tryz.prog w = .ok (decide (a = b)) w:=by
 obtain ⟨a1,a2⟩:=a
 obtain ⟨b1,b2⟩:=b
 have u3:=Tryz.underlying3
 have a3:=Tryz.isAgg3
 have z3:=Tryz.sizeOf3
 simp only [stepK,Op.equal,Op.maxDepth]
 rw [show (10000:Nat) = 9999 + 1 from rfl,Op.equalIn]
 simp only [Sem.run_bind,run_underlying Tryz.underlying155,Result.andThen_ok]
 simp only [Std.Legacy.Range.forIn_eq_forIn_range',Std.Legacy.Range.size,Nat.sub_zero,Nat.add_sub_cancel,Nat.div_one,List.range'_succ,List.range'_zero,List.forIn_cons,List.forIn_nil]
 go_simp
 by_cases h1:a1 = b1 <;> by_cases h2:a2 = b2 <;> simp [h1,h2]
theorem step_asking (w:World) (k:Int × Int):∀ (es:List ((Int × Int) × Value)) (i j:Nat),
  (Instr.findAsking 155 (stepK k) (entL stepK es i) j).run Tryz.prog w = .ok (posOf k es j) w
 | [],_,_ => rfl
 | (k',v) :: r,i,j => by
  simp only [entL,Instr.findAsking,Sem.run_bind,step_equal,Result.andThen,posOf]
  by_cases e:k = k'
  ·
   simp [e,Sem.run_pure]
  ·
   simp [e,step_asking w k r (i + 1) (j + 1)]
theorem step_check (w:World) (e:Bool) (k:Int × Int):(Instr.checkKey e 10000 155 (stepK k)).run Tryz.prog w = .ok () w:=by
 obtain ⟨a1,a2⟩:=k
 kernel_rfl
theorem step_ok:KeyOk Tryz.prog 155 stepK where
 check w e k:=step_check w e k
 find w k es i:=by
  have hk:=step_asking w k es i 0
  cases es with
  | nil => simp [Instr.findKey,entL,Instr.findNow,posOf,run_underlying Tryz.underlying155,Result.andThen]
  | cons x r =>
   obtain ⟨k',v⟩:=x
   have hn:∀ (kind:TypeDesc) (l:List MapEntry) (j:Nat),Instr.findNow kind (stepK k) (⟨stepK k',v,i⟩ :: l) j = none:=by
    intro kind l j
    have:Instr.sameNow kind (stepK k) (stepK k') = none:=by cases kind <;> rfl
    simp only [Instr.findNow,this]
   rw [entL] at hk ⊢
   simp only [Instr.findKey,Sem.run_bind,run_underlying Tryz.underlying155,Result.andThen,hn]
   exact hk
end Go.Proofs.YtfimpmennkfjcaaGreatDoor
namespace Go.Proofs.YtfimpmennkfjcaaGreatDoor
open Go.RowKit
def stepsFrom (i:Nat) (fs:List Fld):List ((Int × Int) × Value):=fs.map fun f => (((i:Int),f.number),f.val)
def stepsOf:List Mes → Nat → List ((Int × Int) × Value)
 | [],_ => []
 | m :: r,i => stepsFrom i m.fields ++ stepsOf r (i + 1)
theorem stepsOf_append:∀ (a b:List Mes) (i:Nat),stepsOf (a ++ b) i = stepsOf a i ++ stepsOf b (i + a.length)
 | [],b,i => by simp [stepsOf]
 | m :: r,b,i => by
  rw [List.cons_append,stepsOf,stepsOf,stepsOf_append r b (i + 1),List.append_assoc,List.length_cons,show i + 1 + r.length = i + (r.length + 1) by omega]
theorem getOf_miss {es:List ((Int × Int) × Value)} {k:Int × Int} (h:∀ e ∈ es,e.1 ≠ k):getOf k es = none:=by
 induction es with
 | nil => rfl
 | cons x r ih =>
  obtain ⟨k',v⟩:=x
  rw [getOf,if_neg (fun e => h (k',v) (by simp) e.symm)]
  exact ih fun e he => h e (by simp [he])
theorem stepsOf_key:∀ (l:List Mes) (i:Nat),∀ e ∈ stepsOf l i,(i:Int) ≤ e.1.1 ∧ e.1.1 < i + l.length
 | [],_,e,h => by simp [stepsOf] at h
 | m :: r,i,e,h => by
  rw [stepsOf] at h
  rcases List.mem_append.1 h with h | h
  ·
   obtain ⟨f,-,rfl⟩:=List.mem_map.1 h
   simp;omega
  ·
   have:=stepsOf_key r (i + 1) e h
   simp at this ⊢;omega
theorem getOf_from (i:Nat) (n:Int):∀ fs:List Fld,getOf ((i:Int),n) (stepsFrom i fs) = (fs.find? fun f => decide (f.number = n)).map Fld.val
 | [] => rfl
 | f :: r => by
  have ih:=getOf_from i n r
  unfold stepsFrom at ih ⊢
  rw [List.map_cons,getOf]
  by_cases h:f.number = n
  ·
   rw [if_pos (by rw [h]),List.find?_cons_of_pos (by simpa using h)];rfl
  ·
   rw [if_neg (fun e => h (congrArg Prod.snd e).symm),List.find?_cons_of_neg (by simpa using h)];exact ih
theorem getOf_steps {s:List Mes} {at':Int} {n:Int} (h0:0 ≤ at') (h1:at' < s.length):getOf (at',n) (stepsOf s 0) = (fieldOfNum s at' n).map Fld.val:=by
 obtain ⟨k,rfl⟩:∃ k:Nat,at' = k:=⟨at'.toNat,by omega⟩
 have hk:k < s.length:=by omega
 have hs:s = s.take k ++ (s.getD k .zero) :: s.drop (k + 1):=by
  conv => lhs;rw [← List.take_append_drop k s,List.drop_eq_getElem_cons hk]
  rw [List.getD_eq_getElem?_getD,List.getElem?_eq_getElem hk];rfl
 have hl:(s.take k).length = k:=by rw [List.length_take];omega
 have e:stepsOf s 0 = stepsOf (s.take k) 0 ++ (stepsFrom k (s.getD k .zero).fields ++ stepsOf (s.drop (k + 1)) (k + 1)):=by
  conv => lhs;rw [hs]
  rw [stepsOf_append,stepsOf,hl,Nat.zero_add]
 rw [e,getOf_append,getOf_miss (fun x hx => ?_)]
 ·
  simp only [Option.orElse]
  rw [getOf_append,getOf_from,getOf_miss (es:=stepsOf (s.drop (k + 1)) (k + 1)) (fun x hx => ?_)]
  ·
   unfold fieldOfNum
   rw [Int.toNat_natCast]
   cases ((s.getD k .zero).fields.find? fun f => decide (f.number = n)) <;> rfl
  ·
   have:=stepsOf_key _ _ x hx
   intro hh
   have:=congrArg Prod.fst hh
   simp at this
   omega
 ·
  have:=stepsOf_key _ _ x hx
  intro hh
  have:=congrArg Prod.fst hh
  simp at this
  omega
end Go.Proofs.YtfimpmennkfjcaaGreatDoor
namespace Go.Proofs.YtfimpmennkfjcaaGreatDoor
open Go.RowKit
theorem mapIs_later {K:Type} {kv:K → Value} {w w':World} {r:Nat} {es:List (K × Value)} (h:MapIs w r kv es) (hb:Below w.heap.size w w'):MapIs w' r kv es:=by
 unfold MapIs at *
 have hr:r < w.heap.size:=(Array.getElem?_eq_some_iff.1 h).1
 rw [hb.block r hr];exact h
theorem below_putMap {K:Type} {kv:K → Value} {B:Nat} {w w':World} {r:Nat} {es:List (K × Value)} (h:Below B w w') (hr:B ≤ r):Below B w (putMap w' r kv es):=
 ⟨h.os,h.tape,h.output,by rw [putMap_size];exact h.size,fun b hb => (putMap_other (by omega)).trans (h.block b hb)⟩
theorem stepsOf_take {s:List Mes} {k:Nat} (h:k < s.length):stepsOf (s.take (k + 1)) 0 = stepsOf (s.take k) 0 ++ stepsFrom k (s.getD k .zero).fields:=by
 rw [List.take_succ_eq_append_getElem h,stepsOf_append,List.length_take,Nat.min_eq_left (by omega),Nat.zero_add,List.getD_eq_getElem?_getD,List.getElem?_eq_getElem h]
 simp [stepsOf]
theorem stepsFrom_take {fs:List Fld} {k j:Nat} (h:j < fs.length):stepsFrom k (fs.take (j + 1)) = stepsFrom k (fs.take j) ++ [(((k:Int),(fs.getD j .zero).number),(fs.getD j .zero).val)]:=by
 unfold stepsFrom
 rw [List.take_succ_eq_append_getElem h,List.map_append,List.getD_eq_getElem?_getD,List.getElem?_eq_getElem h]
 rfl
theorem steps_new {s:List Mes} (hs:sright s = true) {k j:Nat} (hk:k < s.length) (hj:j < (s.getD k .zero).fields.length) :
  getOf ((k:Int),((s.getD k .zero).fields.getD j .zero).number) (stepsOf (s.take k) 0 ++ stepsFrom k ((s.getD k .zero).fields.take j)) = none:=by
 refine getOf_miss fun e he hh => ?_
 rcases List.mem_append.1 he with h | h
 ·
  have h1:=stepsOf_key _ _ e h
  have h2:=congrArg Prod.fst hh
  simp [List.length_take] at h1 h2
  omega
 ·
  obtain ⟨f,hf,rfl⟩:=List.mem_map.1 h
  have h2:f.number = ((s.getD k .zero).fields.getD j .zero).number:=congrArg Prod.snd hh
  have hp:=sright_apart hs _ (getD_memM s k .zero hk)
  rw [List.pairwise_iff_getElem] at hp
  obtain ⟨i,hi,e⟩:=List.getElem_of_mem hf
  have hij:i < j:=by rw [List.length_take] at hi;omega
  have h3:=(hp i j (by omega) hj hij).1
  apply h3
  rw [List.getElem_take] at e
  rw [e,h2,List.getD_eq_getElem?_getD,List.getElem?_eq_getElem hj];rfl
def StepsPost (w:World) (s:List Mes) (e:Ending) (w':World):Prop:=∃ r,e = .returned (.map (some r)) ∧ MapIs w' r stepK (stepsOf s 0) ∧ Below w.heap.size w w'
set_option maxRecDepth 100000 in
set_option maxHeartbeats 4000000 in
theorem mask_steps {w:World} {sv:Value} {s:List Mes} (hS:SchemaAt w sv s) (hs:sright s = true) :
  Calls Tryz.prog 90 #[sv] w (StepsPost w s):=by
 have HSR:=hid hs
 obtain ⟨hm,sa,sc,rfl,hsat⟩:=hS.open
 obtain ⟨m,HM⟩:∃ m,Hid (m = s.length):=⟨_,rfl⟩
 rw [← HM.out] at hm hsat ⊢
 have HSAT:=hid hsat
 have hmm:=@run_makeMap Tryz.prog
 have HM0:Hid (MapIs (w.alloc (.map #[] 0)) w.heap.size stepK [] ∧ Below w.heap.size w (w.alloc (.map #[] 0))):=⟨heap_alloc_new w _,(Below.refl _ _).alloc (Nat.le_refl _) _⟩
 clear hS hs hsat
 go_enter Tryz.func90,Tryz.ntmps90
 go_wp2_with fail
 clear hmm
 go_loopw [11] (fun v11 wr => ∃ k:Nat,v11 = .int .i64 k ∧ k ≤ m ∧ Hid (MapIs wr w.heap.size stepK (stepsOf (s.take k) 0) ∧ Below w.heap.size w wr)) (fun v11 _ => m - (intOf v11).toNat)
 case atStart => exact ⟨0,rfl,by omega,HM0.out⟩
 case round =>
  obtain ⟨k,rfl,hk,HI⟩:=hrel
  by_cases hlt:k < m
  ·
   obtain ⟨b2,o2,fv,ha2,hnl,g1,g2,hF⟩:=HSAT.out k hlt
   have hix2:=index_run Tryz.underlying23 size_mes ha2 k hlt (cap:=sc)
   have hkp:=below_keeps HI.out.2
   replace g1:=hkp _ _ g1
   replace g2:=hkp _ _ g2
   obtain ⟨fs,HFS⟩:∃ fs,Hid (fs = (s.getD k .zero).fields):=⟨_,rfl⟩
   rw [← HFS.out] at hF
   obtain ⟨nm,HNM⟩:∃ nm,Hid (nm = (s.getD k .zero).name):=⟨_,rfl⟩
   rw [← HNM.out] at g1
   obtain ⟨hfl,fa,fc,rfl,hfat⟩:=hF.open
   obtain ⟨fn,HFN⟩:∃ fn,Hid (fn = fs.length):=⟨_,rfl⟩
   rw [← HFN.out] at hfl hfat g2
   have HFAT:=hid hfat
   obtain ⟨wo,rfl⟩:∃ wo:World,wo = wr:=⟨_,rfl⟩
   clear ha2 hnl hF hkp hfat
   go_wp2_with fail
   go_loopw [19] (fun v19 wr => ∃ j:Nat,v19 = .int .i64 j ∧ j ≤ fn ∧ Hid (MapIs wr w.heap.size stepK (stepsOf (s.take k) 0 ++ stepsFrom k (fs.take j)) ∧ Below w.heap.size w wr)) (fun v19 _ => fn - (intOf v19).toNat)
   case atStart =>
    refine ⟨0,rfl,by omega,?_,?_⟩
    ·
     rw [List.take_zero];simp only [stepsFrom,List.map_nil,List.append_nil]
     exact mapIs_later HI.out.1 (by (repeat (first | with_reducible exact Below.refl _ _ | with_reducible refine Below.setCell ?_ (by first | omega | (simp;omega) | (simp;done)) _ | with_reducible refine Below.alloc ?_ (by first | omega | (simp;omega) | (simp;done)) _ | with_reducible refine below_drewN ?_ _ | with_reducible refine Below.drew ?_)))
    ·
     refine HI.out.2.trans (Below.mono ?_ HI.out.2.size)
     (repeat (first | with_reducible exact Below.refl _ _ | with_reducible refine Below.setCell ?_ (by first | omega | (simp;omega) | (simp;done)) _ | with_reducible refine Below.alloc ?_ (by first | omega | (simp;omega) | (simp;done)) _ | with_reducible refine below_drewN ?_ _ | with_reducible refine Below.drew ?_))
   case round =>
    obtain ⟨j,rfl,hj,HJ⟩:=hrel
    by_cases hlt2:j < fn
    ·
     obtain ⟨b3,o3,ha3,hok,f0,f1,f2,f3,f4,f5⟩:=HFAT.out j hlt2
     have hix3:=index_run Tryz.underlying65 size_fld ha3 j hlt2 (cap:=fc)
     have hkp:=below_keeps HJ.out.2
     replace f0:=hkp _ _ f0
     replace f1:=hkp _ _ f1
     replace f2:=hkp _ _ f2
     replace f3:=hkp _ _ f3
     replace f4:=hkp _ _ f4
     replace f5:=hkp _ _ f5
     obtain ⟨f,HF⟩:∃ f,Hid (f = fs.getD j .zero):=⟨_,rfl⟩
     have HST:Hid (stepsFrom k (fs.take (j + 1)) = stepsFrom k (fs.take j) ++ [(((k:Int),f.number),f.val)]):=by
      rw [Hid,stepsFrom_take (by rw [← HFN.out];exact hlt2),HF.out]
     have hnew:getOf ((k:Int),f.number) (stepsOf (s.take k) 0 ++ stepsFrom k (fs.take j)) = none:=by
      have:=steps_new HSR.out (k:=k) (j:=j) (by rw [← HM.out];exact hlt) (by rw [← HFS.out,← HFN.out];exact hlt2)
      rw [← HFS.out,← HF.out] at this
      exact this
     rw [← HF.out] at f0 f1 f2 f3 f4 f5
     obtain ⟨es,HES⟩:∃ es,Hid (es = stepsOf (s.take k) 0 ++ stepsFrom k (fs.take j)):=⟨_,rfl⟩
     rw [← HES.out] at hnew
     have HEN:Hid (stepsOf (s.take k) 0 ++ stepsFrom k (fs.take (j + 1)) = es ++ [(((k:Int),f.number),f.val)]):=by
      rw [Hid,HST.out,HES.out,List.append_assoc]
     have hMI:MapIs wr w.heap.size stepK es:=by rw [HES.out];exact HJ.out.1
     obtain ⟨fname,fnum,fkind,frep,fpack,fof⟩:=f
     have hA:Below wr.heap.size wr (wr.alloc (.cells #[.string fname,.int .i64 fnum,.int .i64 fkind,.bool frep,.bool fpack,.int .i64 fof] 64)):=(Below.refl _ _).alloc (Nat.le_refl _) _
     have hMA:=mapIs_later hMI hA
     have hins:=map_insert (P:=Tryz.prog) step_ok Tryz.underlying151 hMA ((k:Int),fnum) (Fld.val ⟨fname,fnum,fkind,frep,fpack,fof⟩) hnew
     unfold stepK Fld.val at hins
     obtain ⟨W,HW⟩:∃ W,Hid (W = putMap (wr.alloc (.cells #[.string fname,.int .i64 fnum,.int .i64 fkind,.bool frep,.bool fpack,.int .i64 fof] 64)) w.heap.size stepK (es ++ [(((k:Int),fnum),Fld.val ⟨fname,fnum,fkind,frep,fpack,fof⟩)])):=⟨_,rfl⟩
     have HREL:Hid (MapIs W w.heap.size stepK (stepsOf (s.take k) 0 ++ stepsFrom k (fs.take (j + 1))) ∧ Below w.heap.size w W):=by
      rw [Hid,HEN.out,HW.out]
      have hsz:w.heap.size < (wr.alloc (.cells #[.string fname,.int .i64 fnum,.int .i64 fkind,.bool frep,.bool fpack,.int .i64 fof] 64)).heap.size:=(Array.getElem?_eq_some_iff.1 hMA).1
      exact ⟨putMap_is hsz,below_putMap (HJ.out.2.alloc HJ.out.2.size _) (Nat.le_refl _)⟩
     have HINS:Hid ((Instr.mapUpdate 151 (.map (some w.heap.size)) (.agg #[.int .i64 (k:Int),.int .i64 fnum]) (.agg #[.string fname,.int .i64 fnum,.int .i64 fkind,.bool frep,.bool fpack,.int .i64 fof])).run Tryz.prog (wr.alloc (.cells #[.string fname,.int .i64 fnum,.int .i64 fkind,.bool frep,.bool fpack,.int .i64 fof] 64)) = .ok () W):=by
      rw [Hid,HW.out];exact hins
     have hins2:=HINS.out
     simp only at f0 f1 f2 f3 f4 f5
     clear hins hMA hA hMI hnew hok ha3 hkp
     go_wp2_with fail
     go_roundw
     case rel => exact ⟨j + 1,by go_num,hlt2,HREL.out⟩
     case measure => simp [intOf];omega
    ·
     obtain rfl:j = fn:=by omega
     have HREL:Hid (MapIs wr w.heap.size stepK (stepsOf (s.take (k + 1)) 0) ∧ Below w.heap.size w wr):=by
      have h1:=HJ.out.1
      rw [show fs.take j = fs from List.take_of_length_le (by rw [HFN.out];exact Nat.le_refl _),HFS.out] at h1
      rw [Hid,stepsOf_take (by rw [← HM.out];exact hlt)]
      exact And.intro h1 HJ.out.2
     clear hlt2
     go_wp2_with fail
     go_roundw
     case rel => exact ⟨k + 1,by go_num,hlt,HREL.out⟩
     case measure => simp [intOf];omega
  ·
   obtain rfl:k = m:=by omega
   have HFIN:Hid (MapIs wr w.heap.size stepK (stepsOf s 0)):=by
    have h1:=HI.out.1
    rw [List.take_of_length_le (by rw [← HM.out];exact Nat.le_refl _)] at h1
    exact h1
   go_wp2_with fail
   go_ret
   exact ⟨_,rfl,HFIN.out,HI.out.2⟩
end Go.Proofs.YtfimpmennkfjcaaGreatDoor
namespace Go.Proofs.YtfimpmennkfjcaaGreatDoor
open Go.RowKit
end Go.Proofs.YtfimpmennkfjcaaGreatDoor
