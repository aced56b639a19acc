/- Parts of a proof: texts of the author, merged. No condition of their own. -/
import Derived.Test.YtfimpmennkfjcaaGreatDoorZ22
import Derived.Test.YtfimpmennkfjcaaGreatDoorZ39
import Derived.Lib.LastIndexByte
import Derived.Deep.RegionHeld3
namespace Go.Proofs.YtfimpmennkfjcaaGreatDoor
open Go.RowKit
theorem split_use {w:World} {p:List UInt8} {y:Bool} (hy:pathOk p = y):∀ e w',SplitPost w p e w' → ∃ (v':Value) (c:Int),e = .returned (.tuple #[v',.int .u8 c]) ∧ Hid (c = if y = true then 0 else 12) ∧ StrsOwn w' w.heap.size v' (if y = true then sdot p else []) ∧ Below w.heap.size w w':=by
 rintro e w' ⟨v',h1,h2,h3⟩
 subst hy
 refine ⟨v',_,h1,?_,h2,h3⟩
 cases pathOk p <;> rfl
theorem sdot_strs {w:World} {base:Nat} {v:Value} {p:List UInt8} (h:StrsOwn w base v (sdot p)) (hp:p.length ≤ 549755813888):StrsAt w v (sdot p):=
 h.strs (by have:=sdot_len p;omega) fun t ht => by have:=sdot_mem_len p t ht;omega
theorem names_no46 {l:List (List UInt8)} (h:namesOk l = true):∀ x ∈ l,(46:UInt8) ∉ x:=by
 intro x hx hm
 unfold namesOk at h
 have h1:=List.all_eq_true.1 h x hx
 unfold nameOk at h1
 rw [Bool.and_eq_true] at h1
 obtain ⟨k,hk⟩:=List.mem_iff_getElem?.1 hm
 obtain ⟨hkl,hk2⟩:=List.getElem?_eq_some_iff.1 hk
 have h2:=List.all_eq_true.1 h1.1 k (List.mem_range.2 (by rw [str_size];exact hkl))
 have hb:byteAt ⟨x.toArray⟩ k = 46:=by simp [byteAt,hkl,hk2]
 rw [hb] at h2
 unfold charOk letterOk at h2
 simp at h2
def joinOk (l:List (List UInt8)):Bool:=namesOk l && decide (1 ≤ l.length ∧ l.length ≤ 65)
theorem joinOk_iff (l:List (List UInt8)):(pathOk (sjoin l) && decide (sdot (sjoin l) = l)) = joinOk l:=by
 by_cases h:joinOk l = true
 ·
  rw [h]
  unfold joinOk at h
  rw [Bool.and_eq_true] at h
  have h2:=of_decide_eq_true h.2
  have h3:sdot (sjoin l) = l:=sdot_sjoin (fun e => by rw [e] at h2;simp at h2) (names_no46 h.1)
  rw [pathOk,h3,h.1]
  simp [h2.2]
 ·
  have hf:joinOk l = false:=by simpa using h
  rw [hf]
  by_cases h3:sdot (sjoin l) = l
  ·
   have:pathOk (sjoin l) = false:=by
    cases hp:pathOk (sjoin l) with
    | false => rfl
    | true =>
     exfalso
     apply h
     unfold pathOk at hp
     rw [h3,Bool.and_eq_true] at hp
     unfold joinOk
     rw [hp.2,Bool.true_and]
     refine decide_eq_true ⟨?_,of_decide_eq_true hp.1⟩
     obtain ⟨x,r,e⟩:=sdot_cons (sjoin l)
     rw [h3] at e
     rw [e];simp
   rw [this,Bool.false_and]
  ·
   rw [decide_eq_false h3,Bool.and_false]
theorem map_strs:∀ l:List (List UInt8),(l.map fun t => (⟨t.toArray⟩:ByteArray)).map (fun s:ByteArray => s.data.toList) = l
 | [] => rfl
 | x :: r => by rw [List.map_cons,List.map_cons,map_strs r]
theorem equal_strs {w:World} {v u:Value} {l m:List (List UInt8)} (h:StrsAt w v l) (hu:StrsAt w u m) :
  Calls Tryz.prog 130 #[v,u] w fun e w' => e = .returned (.bool (decide (l = m))) ∧ Below w.heap.size w w':=by
 obtain ⟨hl,a,c,rfl,-,hat⟩:=h.open
 obtain ⟨hm,a2,c2,rfl,-,hbt⟩:=hu.open
 by_cases hn:l.length = m.length
 ·
  by_cases h0:l.length = 0
  ·
   obtain rfl:l = []:=List.eq_nil_of_length_eq_zero h0
   obtain rfl:m = []:=List.eq_nil_of_length_eq_zero (by omega)
   refine (Tryz.slices_Equal_string_empty a a2 c 0 c2 w (by omega)).mono ?_
   rintro e w' ⟨h1,rfl⟩
   exact ⟨by rw [h1];simp,Below.refl _ _⟩
  ·
   obtain ⟨-,b,o,rfl,-⟩:=hat 0 _ (List.getElem?_eq_getElem (by omega))
   obtain ⟨-,b2,o2,rfl,-⟩:=hbt 0 _ (List.getElem?_eq_getElem (by omega))
   have hc:∀ (l:List (List UInt8)) (b o:Nat),(∀ k t,l[k]? = some t → t.length ≤ 140737488355328 ∧ ∃ b' o',(some ⟨b,o,none⟩:Option Addr) = some ⟨b',o',none⟩ ∧ w.cell? ⟨b',o' + k,none⟩ = some (strV t)) →
     ∀ j,j < (l.map fun t => (⟨t.toArray⟩:ByteArray)).length → w.cell? ⟨b,o + j,none⟩ = some (.string ((l.map fun t => (⟨t.toArray⟩:ByteArray)).getD j ByteArray.empty)):=by
    intro l b o hat j hj
    rw [List.length_map] at hj
    obtain ⟨-,b',o',e,hcell⟩:=hat j _ (List.getElem?_eq_getElem hj)
    cases e
    rw [hcell]
    simp [strV,hj]
   refine (Tryz.slices_Equal_string b o l.length c b2 o2 m.length c2 (l.map fun t => ⟨t.toArray⟩) (m.map fun t => ⟨t.toArray⟩) w (by simp) (by simp) (by omega) (by omega) (hc l b o hat) (hc m b2 o2 hbt)).mono ?_
   rintro e w' ⟨h1,q,rfl⟩
   refine ⟨?_,below_drewN (Below.refl _ _) _⟩
   rw [h1,List.take_of_length_le (by simp),List.take_of_length_le (by simp)]
   have:((l.map fun t => (⟨t.toArray⟩:ByteArray)) = m.map fun t => ⟨t.toArray⟩) ↔ l = m:=by
    constructor
    ·
     intro e
     have:=congrArg (List.map fun s:ByteArray => s.data.toList) e
     rwa [map_strs,map_strs] at this
    ·
     rintro rfl;rfl
   rw [decide_eq_decide.2 this]
 ·
  refine (Tryz.slices_Equal_string_lens a a2 l.length c m.length c2 w hn).mono ?_
  rintro e w' ⟨h1,rfl⟩
  exact ⟨by rw [h1,decide_eq_false (fun e => hn (by rw [e]))],Below.refl _ _⟩
theorem join_strs {w:World} {v:Value} {l:List (List UInt8)} (h:StrsAt w v l) (hw:twt l ≤ 549755813888) :
  Calls Tryz.prog 129 #[v,.string ⟨#[46]⟩] w fun e w' => e = .returned (strV (sjoin l)) ∧ Below w.heap.size w w':=by
 obtain ⟨hl,a,c,rfl,-,hat⟩:=h.open
 have hcap:l.length ≤ c:=by
  obtain ⟨⟨_,_,a',c',e,h3,_⟩,_⟩:=h
  cases e;exact h3
 by_cases h0:l.length = 0
 ·
  obtain rfl:l = []:=List.eq_nil_of_length_eq_zero h0
  refine (Tryz.strings_Join_none a c ⟨#[46]⟩ w).mono ?_
  rintro e w' ⟨h1,rfl⟩
  exact ⟨h1,Below.refl _ _⟩
 ·
  obtain ⟨-,b,o,rfl,hc0⟩:=hat 0 _ (List.getElem?_eq_getElem (by omega))
  have hmap:(l.map fun t => (⟨t.toArray⟩:ByteArray)).map (·.data.toList) = l:=map_strs l
  have hj:=Tryz.strings_Join b o c (l.map fun t => ⟨t.toArray⟩) ⟨#[46]⟩ w (fun j x hx => by
   simp only [List.getElem?_map,Option.map_eq_some_iff] at hx
   obtain ⟨t,ht,rfl⟩:=hx
   obtain ⟨-,b',o',e,hcell⟩:=hat j t ht
   cases e
   exact hcell) (World.block_lt_of_cell? w _ hc0) (by simpa using hl) (by simpa using hcap) (by
    rw [hmap]
    show (Lib.join l [46]).length ≤ _
    rw [sjoin_lib]
    have:=sjoin_len l
    omega)
  rw [hmap,List.length_map] at hj
  refine hj.mono ?_
  rintro e w' ⟨h1,h2⟩
  refine ⟨?_,h2⟩
  rw [h1]
  show Ending.returned (.string ⟨(Lib.join l [46]).toArray⟩) = _
  rw [sjoin_lib];rfl
set_option maxRecDepth 100000 in
set_option maxHeartbeats 4000000 in
theorem path_Join {w:World} {v:Value} {l:List (List UInt8)} (h:StrsAt w v l) (hw:twt l ≤ 549755813888) :
  Calls Tryz.prog 91 #[v] w fun e w' => e = .returned (.tuple #[strV (if joinOk l = true then sjoin l else []),.int .u8 ((if joinOk l = true then 0 else 12:Nat):Int)]) ∧ Below w.heap.size w w':=by
 have HJ:=hid (join_strs h hw)
 have HST:=hid h
 obtain ⟨hl,a,c,rfl,-,-⟩:=h.open
 obtain ⟨n,HN⟩:∃ n,Hid (n = l.length):=⟨_,rfl⟩
 rw [← HN.out] at hl HJ HST ⊢
 have hjl:(sjoin l).length ≤ 549755813888:=Nat.le_trans (sjoin_len l) hw
 have HSP:Hid (∀ W,Calls Tryz.prog 76 #[strV (sjoin l)] W (SplitPost W (sjoin l))):=fun W => path_Split (w:=W) (sjoin l) (by omega)
 have HJL:=hid hjl
 obtain ⟨js,HJS⟩:∃ s:ByteArray,Hid (s = ⟨(sjoin l).toArray⟩):=⟨_,rfl⟩
 have HV:Hid (strV (sjoin l) = .string js):=by rw [HJS.out];rfl
 rw [HV.out] at HJ HSP
 obtain ⟨r1,HR1⟩:∃ r:Value,Hid (r = strV (if joinOk l = true then sjoin l else [])):=⟨_,rfl⟩
 obtain ⟨r2,HR2⟩:∃ r:Nat,Hid (r = if joinOk l = true then 0 else 12):=⟨_,rfl⟩
 rw [← HR1.out,← HR2.out]
 obtain ⟨y,HY⟩:∃ y,Hid (pathOk (sjoin l) = y):=⟨_,rfl⟩
 obtain ⟨z,HZ⟩:∃ z,Hid (decide (sdot (sjoin l) = l) = z):=⟨_,rfl⟩
 have HYZ:Hid (joinOk l = (y && z)):=by rw [Hid,← joinOk_iff,HY.out,HZ.out]
 have HBAD:Hid (joinOk l = false → r1 = .string ⟨#[]⟩ ∧ r2 = 12):=by
  intro hb
  rw [HR1.out,HR2.out,hb]
  exact ⟨rfl,rfl⟩
 clear h hw hjl
 go_enter Tryz.func91,Tryz.ntmps91
 go_wp2_with fail
 refine HJ.out.mono ?_
 rintro e w1 ⟨rfl,hb1⟩
 have HB1:=hid hb1
 clear hb1
 go_wp2_with fail
 refine (HSP.out _).mono ?_
 intro e w2 h2
 obtain ⟨v2,c2,rfl,HC2,hO2,hb2⟩:=split_use HY.out e w2 h2
 have HO2:=hid hO2
 have HB2:=hid (HB1.out.trans (hb2.mono HB1.out.size))
 have HST2:=hid (HST.out.keep (below_keeps HB2.out))
 clear h2 hO2 hb2
 cases y with
 | false =>
  obtain rfl:c2 = 12:=HC2.out
  have HE:=hid (HBAD.out (by rw [HYZ.out];rfl))
  go_wp2_with fail
  go_ret2
  exact ⟨by rw [HE.out.1,HE.out.2];first | done | rfl,HB2.out⟩
 | true =>
  obtain rfl:c2 = 0:=HC2.out
  have HO3:Hid (StrsOwn w2 w1.heap.size v2 (sdot (sjoin l))):=HO2.out
  have HEQ:=hid (equal_strs (sdot_strs HO3.out HJL.out) HST2.out)
  rw [HZ.out] at HEQ
  go_wp2_with fail
  refine HEQ.out.mono ?_
  rintro e w3 ⟨rfl,hb3⟩
  have HB3:=hid (HB2.out.trans (hb3.mono HB2.out.size))
  clear hb3
  cases z with
  | false =>
   have HE:=hid (HBAD.out (by rw [HYZ.out];rfl))
   go_wp2_with fail
   go_ret2
   exact ⟨by rw [HE.out.1,HE.out.2];first | done | rfl,HB3.out⟩
  | true =>
   have HE:Hid (r1 = .string js ∧ r2 = 0):=by
    have hj:joinOk l = true:=by rw [HYZ.out];rfl
    refine ⟨by rw [HR1.out,if_pos hj,HV.out],by rw [HR2.out,if_pos hj]⟩
   go_wp2_with fail
   go_ret2
   exact ⟨by rw [HE.out.1,HE.out.2];first | done | rfl,HB3.out⟩
end Go.Proofs.YtfimpmennkfjcaaGreatDoor
namespace Go.Proofs.YtfimpmennkfjcaaGreatDoor
open Go.RowKit
def pathsW (s:List Mes) (root:Int):List (List Int) → Option (List (List UInt8))
 | [] => some []
 | w :: r => match namesW s root w with
  | none => none
  | some ns => if joinOk ns = true then (pathsW s root r).map (sjoin ns :: ·) else none
def pathsC (s:List Mes) (root:Int) (ws:List (List Int)):Nat × List (List UInt8):=
 if maskArgs s root ≠ 0 then (maskArgs s root,[]) else if isMaskW ws = false then (10,[]) else match pathsW s root ws with | some l => (0,l) | none => (10,[])
theorem sright_name {s:List Mes} (h:sright s = true) (m:Mes) (hm:m ∈ s) (f:Fld) (hf:f ∈ m.fields):f.name.size ≤ 60:=by
 have h0:(scheck s).2.2 = 0:=of_decide_eq_true h
 unfold scheck at h0
 by_cases h1:s.length = 0 ∨ 100 < s.length
 ·
  rw [if_pos h1] at h0;simp at h0
 rw [if_neg h1] at h0
 obtain ⟨h2,-,-⟩:=scheckGo_ok s [] 0 h0 _ hm
 obtain ⟨nm,nu,h3⟩:=fieldsFault_none _ _ _ h2 f hf
 have h4:=(fieldFault_ok h3).1
 unfold nameOk at h4
 simp at h4
 exact h4.2.2
theorem fieldOfNum_mem {s:List Mes} {root n:Int} {f:Fld} (h:fieldOfNum s root n = some f) (h0:0 ≤ root) (h1:root < s.length):f ∈ (s.getD root.toNat .zero).fields ∧ s.getD root.toNat .zero ∈ s ∧ f.number = n:=by
 unfold fieldOfNum at h
 have h2:=List.mem_of_find?_eq_some h
 have h3:=List.find?_some h
 exact ⟨h2,getD_memM _ _ _ (by omega),by simpa using h3⟩
theorem look_steps {w:World} {r:Nat} {s:List Mes} (h:MapIs w r stepK (stepsOf s 0)) {root n:Int} (h0:0 ≤ root) (h1:root < s.length) :
  (Instr.lookup 151 (.map (some r)) (.agg #[.int .i64 root,.int .i64 n]) true).run Tryz.prog w = .ok (.tuple #[((fieldOfNum s root n).map Fld.val).getD (Fld.val .zero),.bool (fieldOfNum s root n).isSome]) w:=by
 have hz:∀ w:World,(zeroValue 64).run Tryz.prog w = .ok (Fld.val .zero) w:=fun w => by kernel_rfl
 have:=map_lookup (P:=Tryz.prog) step_ok Tryz.underlying151 hz h (root,n) true
 rw [getOf_steps h0 h1] at this
 simp only [stepK,if_true] at this
 rw [this]
 cases fieldOfNum s root n <;> rfl
def PathsPost (w:World) (x:Nat × List (List UInt8)) (e:Ending) (w':World):Prop:=∃ v',e = .returned (.tuple #[v',.int .u8 (x.1:Nat)]) ∧ StrsOwn w' w.heap.size v' x.2 ∧ Below w.heap.size w w'
theorem twt_le:∀ l:List (List UInt8),(∀ t ∈ l,t.length ≤ 60) → twt l ≤ 61 * l.length
 | [],_ => by simp [twt]
 | x :: r,h => by
  have h1:=twt_le r fun t ht => h t (by simp [ht])
  have h2:=h x (by simp)
  unfold twt at h1 ⊢
  rw [List.map_cons,List.sum_cons,List.length_cons]
  omega
set_option maxRecDepth 100000 in
set_option maxHeartbeats 8000000 in
theorem mask_Paths {w:World} {sv mv:Value} {s:List Mes} {ws:List (List Int)} (hS:SchemaAt w sv s) (root:Int) (hM:WaysAt w mv ws) (hL:LightW ws) (hL2:∀ l ∈ ws,l.length ≤ 1073741824) :
  Calls Tryz.prog 58 #[sv,.int .i64 root,maskV mv] w (PathsPost w (pathsC s root ws)):=by
 unfold maskV
 obtain ⟨wB,HWB⟩:∃ wB,Hid (wB = w.alloc (.cells #[mv] 37)):=⟨_,rfl⟩
 have hB0:Below w.heap.size w wB:=by rw [HWB.out];(repeat (first | with_reducible exact Below.refl _ _ | with_reducible refine Below.setCell ?_ (by first | omega | (simp;omega) | (simp;done)) _ | with_reducible refine Below.alloc ?_ (by first | omega | (simp;omega) | (simp;done)) _ | with_reducible refine below_drewN ?_ _ | with_reducible refine Below.drew ?_))
 have HB0:=hid hB0
 have hbx:Blk wB w.heap.size [mv] 37:=by rw [HWB.out];exact Blk.new w [mv] _
 have HS:=hid (hS.below hB0)
 have HMW:=hid (hM.below hB0)
 have HAR:=hid (mask_args (hS.below hB0) root)
 have HLL:=hid hL
 have HL2:=hid hL2
 obtain ⟨-,sa,sc,rfl,-⟩:=hS.open
 obtain ⟨m,HM⟩:∃ m,Hid (m = s.length):=⟨_,rfl⟩
 rw [← HM.out] at HS HAR ⊢
 obtain ⟨-,ma,mc,rfl,-,-⟩:=hM.open
 obtain ⟨n,HN⟩:∃ n,Hid (n = ws.length):=⟨_,rfl⟩
 rw [← HN.out] at HMW HWB hbx ⊢
 have HBX:=hid hbx
 obtain ⟨Q,HQ⟩:∃ Q:Ending → World → Prop,Hid (Q = PathsPost w (pathsC s root ws)):=⟨_,rfl⟩
 rw [← HQ.out]
 have HBAD:Hid (∀ w' (c:Nat),Below w.heap.size w w' → pathsC s root ws = (c,[]) → Q (.returned (.tuple #[.slice none 0 0,.int .u8 (c:Int)])) w'):=by
  intro w' c hb h
  rw [HQ.out,h]
  exact ⟨_,rfl,World.ownsRow_nil _ _ _ _,hb⟩
 obtain ⟨ac,HAC⟩:∃ ac,Hid (ac = maskArgs s root):=⟨_,rfl⟩
 rw [← HAC.out] at HAR
 have HCASES:=hid (maskArgs_cases s root)
 clear hS hM hL hL2 hB0 hbx
 by_cases hac:ac = 0
 ·
  obtain ⟨hsr,hr0,hr1⟩:sright s = true ∧ 0 ≤ root ∧ root < s.length:=by
   rcases HCASES.out with h | h | h
   ·
    rw [← HAC.out,hac] at h;cases h
   ·
    rw [← HAC.out,hac] at h;cases h
   ·
    exact h.2
  have HAZ:Hid (maskArgs s root = 0):=by rw [Hid,← HAC.out];exact hac
  subst hac
  have HE:Hid (pathsC s root ws = if isMaskW ws = false then (10,[]) else match pathsW s root ws with | some l => (0,l) | none => (10,[])):=by
   rw [Hid,pathsC,if_neg (by rw [HAZ.out];decide)]
  have HSR:=hid hsr
  have HR01:=hid (And.intro hr0 hr1)
  clear hsr hr0 hr1
  go_enter Tryz.func58,Tryz.ntmps58
  go_wp2_with fail
  rw [← HWB.out]
  refine HAR.out.mono ?_
  rintro e w1 ⟨rfl,hb1⟩
  have HB1:Hid (Below w.heap.size w w1):=below_step HB0.out hb1 HB0.out.size
  have c0:=(HBX.out.below hb1).cell 0 _ rfl
  have HBX1:=hid (HBX.out.below hb1)
  have hri:=mask_right (HMW.out.below hb1) HLL.out
  unfold maskV at hri
  obtain ⟨z,HZ⟩:∃ z,Hid (z = isMaskW ws):=⟨_,rfl⟩
  rw [← HZ.out] at hri HE
  have HRI:=hid hri
  have HS1:=hid (HS.out.below hb1)
  have HMW1:=hid (HMW.out.below hb1)
  clear hb1 hri
  go_wp2_with fail
  refine HRI.out.mono ?_
  rintro e w2 ⟨rfl,hb2⟩
  have HB2:Hid (Below w.heap.size w w2):=below_step HB1.out hb2 HB1.out.size
  cases z with
  | false =>
   clear hb2
   go_wp2_with fail
   exact HBAD.out _ 10 HB2.out (by rw [HE.out];rfl)
  | true =>
   have HE2:Hid (pathsC s root ws = match pathsW s root ws with | some l => (0,l) | none => (10,[])):=by rw [Hid,HE.out];rfl
   have HST:=hid (mask_steps (HS1.out.below hb2) HSR.out)
   have HBX2:=hid (HBX1.out.below hb2)
   have HMW2:=hid (HMW1.out.below hb2)
   clear hb2 c0
   go_wp2_with fail
   refine HST.out.mono ?_
   rintro e w3 ⟨mr,rfl,hMI,hb3⟩
   have HB3:Hid (Below w.heap.size w w3):=below_step HB2.out hb3 HB2.out.size
   have c0:=(HBX2.out.below hb3).cell 0 _ rfl
   have HMI:=hid hMI
   have HMW3:=hid (HMW2.out.below hb3)
   obtain ⟨-,ma',mc',he,-,hat⟩:=HMW3.out.open
   rw [← HN.out] at he
   cases he
   have HAT:=hid hat
   have hn:n ≤ 1099511627776:=by rw [HN.out];exact HLL.out.1
   clear hMI hb3 hat
   go_wp2_with fail
   go_loopw [10,35] (fun v10 v35 wr => ∃ (i:Nat) (ls:List (List UInt8)),v35 = .int .i64 i ∧ i ≤ n ∧ Hid (StrsOwn wr w3.heap.size v10 ls ∧ Below w3.heap.size w3 wr ∧ ls.length = i ∧ pathsW s root ws = (pathsW s root (ws.drop i)).map (ls ++ ·))) (fun _ v35 _ => n - (intOf v35).toNat)
   case atStart => exact ⟨0,[],rfl,by omega,World.ownsRow_nil _ _ _ _,Below.refl _ _,rfl,by simp⟩
   case round =>
    obtain ⟨i,ls,rfl,hi,HI⟩:=hrel
    obtain ⟨oa,oc,hoe⟩:=HI.out.1.form
    rw [HI.out.2.2.1] at hoe
    subst hoe
    by_cases hlt:i < n
    ·
     obtain ⟨y,hy⟩:=way_get HN.out hlt
     obtain ⟨b,o,ya,yc,ha,g0,hY⟩:=HAT.out i y hy
     have hix:=index_run1 Tryz.underlying34 size_ints ha i hlt (cap:=mc)
     replace g0:=below_keeps HI.out.2.1 _ _ g0
     have HYL:Hid (y.length ≤ 1073741824):=HL2.out y (List.mem_of_getElem? hy)
     obtain ⟨yn,HYN⟩:∃ yn,Hid (yn = y.length):=⟨_,rfl⟩
     have hyn:yn ≤ 1073741824:=by rw [HYN.out];exact HYL.out
     rw [← HYN.out] at g0 hY
     have HD:=hid (drop_at hy)
     obtain ⟨-,ya',yc',hye,-,hyat⟩:=hY.open
     rw [← HYN.out] at hye
     cases hye
     have HYAT:=hid hyat
     have HPW:Hid (pathsW s root ws = match namesW s root y with | none => none | some ns => if joinOk ns = true then (pathsW s root (ws.drop (i + 1))).map ((ls ++ [sjoin ns]) ++ ·) else none):=by
      rw [Hid,HI.out.2.2.2,HD.out,pathsW]
      cases namesW s root y with
      | none => rfl
      | some ns =>
       simp only
       split
       ·
        cases pathsW s root (ws.drop (i + 1)) <;> simp
       ·
        rfl
     obtain ⟨wo,rfl⟩:∃ wo:World,wo = wr:=⟨_,rfl⟩
     clear hy ha hY hyat
     go_wp2_with fail
     go_loopw [13,14,42] (fun v13 v14 v42 wr => ∃ (at':Int) (q:Nat) (ns:List (List UInt8)),v13 = .int .i64 at' ∧ v42 = .int .i64 q ∧ q ≤ yn ∧ Hid (StrsOwn wr wo.heap.size v14 ns ∧ Below wo.heap.size wo wr ∧ ns.length = q ∧ namesW s root y = (namesW s at' (y.drop q)).map (ns ++ ·) ∧ (q < yn → 0 ≤ at' ∧ at' < s.length) ∧ ∀ t ∈ ns,t.length ≤ 60)) (fun _ _ v42 _ => yn - (intOf v42).toNat)
     case atStart => exact ⟨root,0,[],rfl,rfl,by omega,World.ownsRow_nil _ _ _ _,Below.refl _ _,rfl,by simp,fun _ => HR01.out,by simp⟩
     case round =>
      obtain ⟨at',q,ns,rfl,rfl,hq,HJ⟩:=hrel
      obtain ⟨na,nc,hne⟩:=HJ.out.1.form
      rw [HJ.out.2.2.1] at hne
      subst hne
      by_cases hlt2:q < yn
      ·
       obtain ⟨nb,hnb⟩:=int_get HYN.out hlt2
       obtain ⟨h64,b2,o2,ha2,g2⟩:=HYAT.out q nb hnb
       have hix2:=index_run1 Tryz.underlying56 size_int ha2 q hlt2 (cap:=yc)
       have hbw:Below w3.heap.size w3 wr:=HI.out.2.1.trans (HJ.out.2.1.mono HI.out.2.1.size)
       replace g2:=below_keeps hbw _ _ g2
       have HDQ:=hid (drop_at hnb)
       obtain ⟨hat0,hat1⟩:=HJ.out.2.2.2.2.1 hlt2
       have hlook:=look_steps (mapIs_later HMI.out hbw) (n:=nb) hat0 hat1
       obtain ⟨of,HOF⟩:∃ of,Hid (of = fieldOfNum s at' nb):=⟨_,rfl⟩
       have HFM:Hid (∀ f,of = some f → f ∈ (s.getD at'.toNat .zero).fields ∧ s.getD at'.toNat .zero ∈ s ∧ f.number = nb):=fun f hf => fieldOfNum_mem (HOF.out ▸ hf) hat0 hat1
       rw [← HOF.out] at hlook
       have HAT01:=hid (And.intro hat0 hat1)
       clear hnb ha2 h64 hbw hat0 hat1
       cases of with
       | none =>
        have HX:Hid (pathsC s root ws = (10,[])):=by
         rw [Hid,HE2.out,HPW.out,HJ.out.2.2.2.1,HDQ.out,namesW,← HOF.out];rfl
        have HBW:Hid (Below w.heap.size w wr):=HB3.out.trans ((HI.out.2.1.trans (HJ.out.2.1.mono HI.out.2.1.size)).mono HB3.out.size)
        simp only [Option.map_none,Option.getD_none,Option.isSome_none,Fld.val,Fld.zero] at hlook
        go_wp2_with fail
        exact HBAD.out _ 10 (HBW.out.alloc HBW.out.size _) HX.out
       | some f =>
        obtain ⟨hfm,hsm,hfn⟩:=HFM.out f rfl
        have HN60:Hid (f.name.size ≤ 60):=sright_name HSR.out _ hsm f hfm
        have HK17:Hid (f.kind = 17 → 0 ≤ f.of ∧ f.of < s.length):=by
         refine (sright_field HSR.out at'.toNat ?_ f hfm).2.1
         have:=HAT01.out;omega
        have HNW:Hid (namesW s root y = if y.drop (q + 1) ≠ [] ∧ (f.rep = true ∨ f.kind ≠ 17) then none else (namesW s f.of (y.drop (q + 1))).map ((ns ++ [f.name.data.toList]) ++ ·)):=by
         rw [Hid,HJ.out.2.2.2.1,HDQ.out,namesW,← HOF.out]
         simp only
         split
         ·
          rfl
         ·
          cases namesW s f.of (y.drop (q + 1)) <;> simp
        have HNIL:Hid (y.drop (q + 1) ≠ [] ↔ q + 1 < yn):=by
         show _ ↔ _
         rw [HYN.out]
         constructor
         ·
          intro h
          rcases Nat.lt_or_ge (q + 1) y.length with h1 | h1
          ·
           exact h1
          ·
           exact absurd (List.drop_eq_nil_of_le h1) h
         ·
          intro h e
          have:=congrArg List.length e
          simp at this;omega
        have HBW:Hid (Below w.heap.size w wr):=HB3.out.trans ((HI.out.2.1.trans (HJ.out.2.1.mono HI.out.2.1.size)).mono HB3.out.size)
        simp only [Option.map_some,Option.getD_some,Option.isSome_some,Fld.val] at hlook
        obtain ⟨fname,fnum,fkind,frep,fpack,fof⟩:=f
        simp only at HN60 HK17 HNW hlook
        clear hfm hsm hfn
        by_cases hbad:q + 1 < yn ∧ (frep = true ∨ fkind ≠ 17)
        ·
         have HX:Hid (pathsC s root ws = (10,[])):=by
          rw [Hid,HE2.out,HPW.out,HNW.out,if_pos ⟨HNIL.out.2 hbad.1,hbad.2⟩]
         obtain ⟨hb1,hb2⟩:=hbad
         have e1:decide ((q:Int) < (yn:Int) - 1) = true:=decide_eq_true (by omega)
         cases frep with
         | true =>
          go_wp2_with fail
          exact HBAD.out _ 10 (HBW.out.alloc HBW.out.size _) HX.out
         | false =>
          have h17:fkind ≠ 17:=by rcases hb2 with h | h;cases h;exact h
          have k1:(fkind != 17) = true:=by simpa using h17
          have k2:(fkind == 17) = false:=by simpa using h17
          clear hb2 h17
          go_wp2_with fail
          exact HBAD.out _ 10 (HBW.out.alloc HBW.out.size _) HX.out
        ·
         rw [if_neg (fun h => hbad ⟨HNIL.out.1 h.1,h.2⟩)] at HNW
         obtain ⟨W1,HW1⟩:∃ W1,Hid (W1 = wr.alloc (.cells #[.string fname,.int .i64 fnum,.int .i64 fkind,.bool frep,.bool fpack,.int .i64 fof] 64)):=⟨_,rfl⟩
         have hbx:Blk W1 wr.heap.size [.string fname,.int .i64 fnum,.int .i64 fkind,.bool frep,.bool fpack,.int .i64 fof] 64:=by rw [HW1.out];exact Blk.new wr [.string fname,.int .i64 fnum,.int .i64 fkind,.bool frep,.bool fpack,.int .i64 fof] _
         have hb1:Below wr.heap.size wr W1:=by rw [HW1.out];(repeat (first | with_reducible exact Below.refl _ _ | with_reducible refine Below.setCell ?_ (by first | omega | (simp;omega) | (simp;done)) _ | with_reducible refine Below.alloc ?_ (by first | omega | (simp;omega) | (simp;done)) _ | with_reducible refine below_drewN ?_ _ | with_reducible refine Below.drew ?_))
         have hbd:Below wr.heap.size wr W1.drew:=hb1.drew
         have hsv:strV fname.data.toList = .string fname:=by unfold strV;simp
         have hs1:wo.heap.size ≤ W1.drew.heap.size:=Nat.le_trans HJ.out.2.1.size hb1.size
         have hown1:=HJ.out.1.later hbd
         obtain ⟨v8,w8,hr8,hO8,hg8⟩:=StrsOwn.one hown1 fname.data.toList (by rw [HJ.out.2.2.1];omega) hs1
         obtain ⟨a8,c8,e8⟩:=hO8.form
         rw [List.length_append,List.length_singleton,HJ.out.2.2.1] at e8
         subst e8
         rw [hsv] at hr8
         have hX8:Blk w8 wr.heap.size [.string fname,.int .i64 fnum,.int .i64 fkind,.bool frep,.bool fpack,.int .i64 fof] 64:=(hg8.block _ hbx.lt (fun e => by have:=(World.ownsRow.lt HJ.out.1 _ e.symm).2;omega)).trans hbx
         have k0:=And.intro (show W1.drew.cell? ⟨wr.heap.size,0,none⟩ = some (.string fname) from hbx.cell 0 _ rfl) (show W1.drew.cell? ⟨wr.heap.size,5,none⟩ = some (.int .i64 fof) from hbx.cell 5 _ rfl)
         have k1:=And.intro (show (W1.alloc (.cells #[.string fname] 9)).drew.cell? ⟨wr.heap.size,0,none⟩ = some (.string fname) from (hbx.alloc _).cell 0 _ rfl) (show (W1.alloc (.cells #[.string fname] 9)).drew.cell? ⟨wr.heap.size,5,none⟩ = some (.int .i64 fof) from (hbx.alloc _).cell 5 _ rfl)
         have k3:=And.intro (hX8.cell 0 _ rfl) (hX8.cell 5 _ rfl)
         have HR8:Hid ((Builtin.append_ #[25,25] 25 #[.slice na q nc,.slice (some ⟨W1.heap.size,0,none⟩) 1 1]).run Tryz.prog (W1.alloc (.cells #[.string fname] 9)).drew = .ok (.slice a8 (q + 1) c8) w8):=hr8
         have HREL:Hid (StrsOwn w8 wo.heap.size (.slice a8 (q + 1) c8) (ns ++ [fname.data.toList]) ∧ Below wo.heap.size wo w8 ∧ (ns ++ [fname.data.toList]).length = q + 1 ∧ namesW s root y = (namesW s fof (y.drop (q + 1))).map ((ns ++ [fname.data.toList]) ++ ·) ∧ (q + 1 < yn → 0 ≤ fof ∧ fof < s.length) ∧ ∀ t ∈ ns ++ [fname.data.toList],t.length ≤ 60):=by
          refine ⟨hO8,(HJ.out.2.1.trans (hbd.mono HJ.out.2.1.size)).grown hg8 hs1 (fun e1 e2 => (World.ownsRow.lt HJ.out.1 e1 e2).1),by rw [List.length_append,HJ.out.2.2.1];rfl,HNW.out,fun h => ?_,fun t ht => ?_⟩
          ·
           refine HK17.out ?_
           exact Classical.byContradiction fun h17 => hbad ⟨h,.inr h17⟩
          ·
           rcases List.mem_append.1 ht with ht | ht
           ·
            exact HJ.out.2.2.2.2.2 t ht
           ·
            have e:t = fname.data.toList:=by simpa using ht
            rw [e]
            have:=HN60.out
            rw [Array.length_toList];exact this
         clear hbx hb1 hbd hsv hs1 hown1 hr8 hO8 hg8 hX8
         by_cases hq1:q + 1 < yn
         ·
          have e1:decide ((q:Int) < (yn:Int) - 1) = true:=decide_eq_true (by omega)
          have hrep:frep = false:=by cases frep;rfl;exact absurd ⟨hq1,.inl rfl⟩ hbad
          have h17:fkind = 17:=Classical.byContradiction fun h => hbad ⟨hq1,.inr h⟩
          subst hrep
          subst h17
          clear hbad
          go_wp2_with fail
          rw [← HW1.out]
          go_region_held3 (fun w' => w'.cell? ⟨wr.heap.size,0,none⟩ = some (.string fname) ∧ w'.cell? ⟨wr.heap.size,5,none⟩ = some (.int .i64 fof)) (first | (with_reducible exact k0) | (with_reducible exact k1) | (with_reducible exact k3) | go_keep) (first | (refine step_append_eq rfl (.tmp 73) (.tmp 76) _ rfl _ _ rfl rfl HR8.out ?_))
          go_wp2_with fail
          go_roundw
          case rel => exact ⟨fof,q + 1,_,rfl,by go_num,hlt2,HREL.out⟩
          case measure => simp [intOf];omega
         ·
          have e1:decide ((q:Int) < (yn:Int) - 1) = false:=decide_eq_false (by omega)
          have e2:¬ ((q:Int) < (yn:Int) - 1):=by omega
          clear hbad hq1
          go_wp2_with fail
          rw [← HW1.out]
          go_region_held3 (fun w' => w'.cell? ⟨wr.heap.size,0,none⟩ = some (.string fname) ∧ w'.cell? ⟨wr.heap.size,5,none⟩ = some (.int .i64 fof)) (first | (with_reducible exact k0) | (with_reducible exact k1) | (with_reducible exact k3) | go_keep) (first | (refine step_append_eq rfl (.tmp 73) (.tmp 76) _ rfl _ _ rfl rfl HR8.out ?_))
          go_wp2_with fail
          go_roundw
          case rel => exact ⟨fof,q + 1,_,rfl,by go_num,hlt2,HREL.out⟩
          case measure => simp [intOf];omega
      ·
       obtain rfl:q = yn:=by omega
       have HNS:Hid (namesW s root y = some ns):=by
        rw [Hid,HJ.out.2.2.2.1,List.drop_eq_nil_of_le (by rw [← HYN.out];omega),namesW];simp
       have hst:=StrsOwn.strs HJ.out.1 (by rw [HJ.out.2.2.1];omega) (fun t ht => by have:=HJ.out.2.2.2.2.2 t ht;omega)
       have hJN:=path_Join hst (by have:=twt_le ns HJ.out.2.2.2.2.2;rw [HJ.out.2.2.1] at this;omega)
       rw [HNS.out] at HPW
       have HJN:=hid hJN
       obtain ⟨jb,HJB⟩:∃ jb,Hid (jb = joinOk ns):=⟨_,rfl⟩
       rw [← HJB.out] at HJN
       simp only [← HJB.out] at HPW
       obtain ⟨jt,HJT⟩:∃ jt,Hid (jt = sjoin ns):=⟨_,rfl⟩
       rw [← HJT.out] at HJN
       have HBW:Hid (Below w.heap.size w wr):=HB3.out.trans ((HI.out.2.1.trans (HJ.out.2.1.mono HI.out.2.1.size)).mono HB3.out.size)
       clear hst hJN hlt2
       go_wp2_with fail
       refine HJN.out.mono ?_
       rintro e w7 ⟨rfl,hb7⟩
       have HB7:=hid hb7
       cases jb with
       | false =>
        have HX:Hid (pathsC s root ws = (10,[])):=by rw [Hid,HE2.out,HPW.out];rfl
        clear hb7
        unfold strV
        simp only [Bool.false_eq_true,if_false]
        go_wp2_with fail
        exact HBAD.out _ 10 (below_step HBW.out HB7.out HBW.out.size) HX.out
       | true =>
        have HPW2:Hid (pathsW s root ws = (pathsW s root (ws.drop (i + 1))).map ((ls ++ [jt]) ++ ·)):=by
         rw [Hid,HPW.out,HJT.out];rfl
        have hbo:Below wo.heap.size wo w7:=below_step HJ.out.2.1 hb7 HJ.out.2.1.size
        obtain ⟨v8,w8,hr8,hO8,hg8⟩:=StrsOwn.one (HI.out.1.later hbo) jt (by rw [HI.out.2.2.1];omega) (Nat.le_trans HI.out.2.1.size hbo.size)
        have hB8:Below w3.heap.size w3 w8:=(below_step HI.out.2.1 hbo HI.out.2.1.size).grown hg8 (Nat.le_trans HI.out.2.1.size hbo.size) (fun e1 e2 => (World.ownsRow.lt (HI.out.1.later hbo) e1 e2).1)
        obtain ⟨a8,c8,e8⟩:=hO8.form
        rw [List.length_append,List.length_singleton,HI.out.2.2.1] at e8
        subst e8
        have HREL:Hid (StrsOwn w8 w3.heap.size (.slice a8 (i + 1) c8) (ls ++ [jt]) ∧ Below w3.heap.size w3 w8 ∧ (ls ++ [jt]).length = i + 1 ∧ pathsW s root ws = (pathsW s root (ws.drop (i + 1))).map ((ls ++ [jt]) ++ ·)):=
         ⟨hO8,hB8,by rw [List.length_append,HI.out.2.2.1];rfl,HPW2.out⟩
        unfold strV at hr8 ⊢
        simp only [if_true]
        clear hb7 hbo hO8 hg8 hB8
        go_wp2_with (at_builtin;refine wpList_append_eq rfl _ _ _ rfl _ _ rfl rfl hr8 ?_)
        go_roundw
        case rel => exact ⟨i + 1,_,by go_num,hlt,HREL.out⟩
        case measure => simp [intOf];omega
    ·
     obtain rfl:i = n:=by omega
     have HX:Hid (pathsC s root ws = (0,ls)):=by
      rw [Hid,HE2.out,HI.out.2.2.2,List.drop_eq_nil_of_le (by rw [← HN.out];omega),pathsW];simp
     have HFIN:Hid (Q (.returned (.tuple #[.slice oa i oc,.int .u8 0])) wr):=by
      rw [HQ.out,HX.out]
      exact ⟨_,rfl,StrsOwn.mono HI.out.1 HB3.out.size,HB3.out.trans (HI.out.2.1.mono HB3.out.size)⟩
     clear hlt
     go_wp2_with fail
     exact HFIN.out
 ·
  have HE:Hid (pathsC s root ws = (ac,[])):=by rw [Hid,pathsC,if_pos (by rw [← HAC.out];exact hac),HAC.out]
  have e1:((ac:Int) != 0) = true:=by simp;exact hac
  have e2:((ac:Int) == 0) = false:=by simp;exact hac
  have e3:(ac != 0) = true:=by simp;exact hac
  have e4:(ac == 0) = false:=by simp;exact hac
  have hac0:0 < ac:=by omega
  clear hac
  go_enter Tryz.func58,Tryz.ntmps58
  go_wp2_with fail
  rw [← HWB.out]
  refine HAR.out.mono ?_
  rintro e w1 ⟨rfl,hb⟩
  have HB:Hid (Below w.heap.size w w1):=below_step HB0.out hb HB0.out.size
  clear hb
  go_wp2_with fail
  exact HBAD.out _ ac HB.out HE.out
end Go.Proofs.YtfimpmennkfjcaaGreatDoor
namespace Go.Proofs.YtfimpmennkfjcaaGreatDoor
open Go.RowKit
theorem waysOf_get {s:List Mes} {root:Int}:∀ {paths:List (List UInt8)} {ws:List (List Int)},waysOf s root paths = some ws → ∀ (i:Nat) (p:List UInt8),paths[i]? = some p → ∃ w,ws[i]? = some w ∧ resolveW s root p = some w
 | [],ws,_,i,p,hp => by simp at hp
 | q :: r,ws,h,i,p,hp => by
  rw [waysOf] at h
  split at h
  ·
   cases h
  ·
   rename_i x hx
   obtain ⟨l',h1,rfl⟩:=Option.map_eq_some_iff.1 h
   cases i with
   | zero => simp at hp;subst hp;exact ⟨x,rfl,hx⟩
   | succ i => simpa using waysOf_get h1 i p (by simpa using hp)
theorem waysOf_mem {s:List Mes} {root:Int}:∀ {paths:List (List UInt8)} {ws:List (List Int)},waysOf s root paths = some ws → ∀ w ∈ ws,∃ p ∈ paths,resolveW s root p = some w
 | [],ws,h,w,hw => by simp [waysOf] at h;subst h;simp at hw
 | q :: r,ws,h,w,hw => by
  rw [waysOf] at h
  split at h
  ·
   cases h
  ·
   rename_i x hx
   obtain ⟨l',h1,rfl⟩:=Option.map_eq_some_iff.1 h
   rcases List.mem_cons.1 hw with e | hw
   ·
    exact ⟨q,by simp,by rw [e];exact hx⟩
   ·
    obtain ⟨p,h2,h3⟩:=waysOf_mem h1 w hw
    exact ⟨p,by simp [h2],h3⟩
theorem resolveW_names {s:List Mes} (hs:sright s = true) {root:Int} {p:List UInt8} {w:List Int} (h:resolveW s root p = some w):namesW s root w = some (sdot p) ∧ joinOk (sdot p) = true ∧ w ≠ []:=by
 unfold resolveW at h
 split at h
 ·
  rename_i hp
  obtain ⟨a,b,e⟩:=sdot_cons p
  refine ⟨wayP_names hs _ _ _ h,?_,?_⟩
  ·
   unfold pathOk at hp
   unfold joinOk
   simp only [Bool.and_eq_true,decide_eq_true_eq] at hp ⊢
   refine ⟨hp.2,?_,hp.1⟩
   rw [e];simp
  ·
   intro hw
   subst hw
   rw [e,wayP] at h
   split at h
   ·
    cases h
   ·
    split at h
    ·
     cases h
    ·
     split at h
     ·
      cases h
     ·
      obtain ⟨l',-,h2⟩:=Option.map_eq_some_iff.1 h
      cases h2
 ·
  cases h
theorem paths_back {s:List Mes} (hs:sright s = true) {root:Int}:∀ (o:List (List Int)),(∀ w ∈ o,∃ p,resolveW s root p = some w) → ∃ l,pathsW s root o = some l ∧ waysOf s root l = some o ∧ l.length = o.length
 | [],_ => ⟨[],rfl,rfl,rfl⟩
 | w :: r,h => by
  obtain ⟨p,hp⟩:=h w (by simp)
  obtain ⟨l,h1,h2,h3⟩:=paths_back hs r fun w hw => h w (by simp [hw])
  obtain ⟨g1,g2,-⟩:=resolveW_names hs hp
  refine ⟨p :: l,?_,?_,by simp [h3]⟩
  ·
   rw [pathsW,g1]
   simp only
   rw [if_pos g2,h1,sjoin_sdot]
   rfl
  ·
   rw [waysOf,hp]
   simp only
   rw [h2];rfl
theorem names_law {s:List Mes} {root:Int} {paths:List (List UInt8)} {o:List (List Int)} (h:makeC s root paths = (0,o)) :
  ∃ l,pathsC s root o = (0,l) ∧ makeC s root l = (0,o) ∧ l.length = o.length ∧ l.length ≤ paths.length ∧ ∀ (i:Nat) (p:List UInt8),paths[i]? = some p → ∃ w,resolveC s root p = (0,w) ∧ hasW o w = true:=by
 rcases maskArgs_cases s root with h0 | h0 | ⟨h0,hs,-,-⟩
 ·
  unfold makeC at h;rw [if_pos (by rw [h0];decide),h0] at h;cases h
 ·
  unfold makeC at h;rw [if_pos (by rw [h0];decide),h0] at h;cases h
 ·
  have hmk:∀ q,makeC s root q = if 200 < q.length then (13,[]) else match waysOf s root q with | some l => (0,mOf l) | none => (10,[]):=fun q => by
   unfold makeC;rw [if_neg (by rw [h0];decide)];first | done | rfl
  have hpc:pathsC s root o = if isMaskW o = false then (10,[]) else match pathsW s root o with | some l => (0,l) | none => (10,[]):=by
   unfold pathsC;rw [if_neg (by rw [h0];decide)];first | done | rfl
  rw [hmk] at h
  split at h
  ·
   cases h
  ·
   rename_i hlen
   split at h
   ·
    rename_i ws hws
    have ho:mOf ws = o:=congrArg Prod.snd h
    have hmask:mOf o = o:=by rw [← ho];exact mOf_self ws
    obtain ⟨l,h1,h2,h3⟩:=paths_back hs (root:=root) o fun w hw => by
     rw [← ho] at hw
     obtain ⟨p,-,hp⟩:=waysOf_mem hws w (((mOf_mask ws).2 w).1 hw).1
     exact ⟨p,hp⟩
    have hlo:o.length ≤ ws.length:=by rw [← ho];exact mOf_len ws
    have hwl:=(waysOf_light hws).1
    refine ⟨l,?_,?_,h3,by omega,fun i p hp => ?_⟩
    ·
     rw [hpc,if_neg (by simp [isMaskW,hmask]),h1]
    ·
     rw [hmk,if_neg (by omega),h2];show (0,mOf o) = (0,o);rw [hmask]
    ·
     obtain ⟨w,hw1,hw2⟩:=waysOf_get hws i p hp
     refine ⟨w,?_,?_⟩
     ·
      unfold resolveC;rw [if_neg (by rw [h0];decide),hw2]
     ·
      rw [← ho,mOf_has,hasW_iff]
      exact ⟨w,List.mem_of_getElem? hw1,(resolveW_names hs hw2).2.2,List.prefix_refl w⟩
   ·
    cases h
end Go.Proofs.YtfimpmennkfjcaaGreatDoor
namespace Go.Proofs.YtfimpmennkfjcaaGreatDoor
open Go.RowKit
def wayHas (s:List Mes):List Int → Nat → List UInt8 → Bool
 | [],_,_ => false
 | n :: r,m,l => (vall (s.getD m .zero).fields l).1.any fun x => decide ((x.r.number:Int) = n) && (decide (r = []) || wayHas s r ((s.getD m .zero).fields.getD x.k.toNat .zero).of.toNat (vbytes l x))
theorem firstAt_none {α:Type} (p:α → Bool):∀ (l:List α) (i:Nat),firstAt p l i = -1 → ∀ f ∈ l,p f = false
 | [],_,_,f,hf => by simp at hf
 | a :: r,i,h,f,hf => by
  rw [firstAt] at h
  by_cases ha:p a = true
  ·
   rw [if_pos ha] at h;omega
  ·
   rw [if_neg ha] at h
   rcases List.mem_cons.1 hf with rfl | hf
   ·
    simpa using ha
   ·
    exact firstAt_none p r (i + 1) h f hf
theorem vlook_unknown {fs:List Fld} {l:List UInt8} {j:Nat} {r:Rec} {run:Bool} (h:vlook fs l j = (r,-1,run,0)):fieldAt fs r.number < 0:=by
 unfold vlook at h
 by_cases h1:(rnext l j).2 ≠ 0
 ·
  rw [if_pos h1] at h
  have:=congrArg (fun t => t.2.2.2) h
  exact absurd this h1
 ·
  rw [if_neg h1] at h
  by_cases h2:fieldAt fs (rnext l j).1.number < 0
  ·
   rw [if_pos h2] at h
   have:=congrArg (fun t => t.1) h
   simp only at this
   rw [← this];exact h2
  ·
   rw [if_neg h2] at h
   simp only at h
   split at h
   ·
    have:=congrArg (fun t => t.2.1) h
    simp only at this
    omega
   ·
    split at h
    ·
     have:=congrArg (fun t => t.2.2.2) h
     simp at this
    ·
     have:=congrArg (fun t => t.2.1) h
     simp only at this
     omega
theorem getD_in' {α:Type} (l:List α) (k:Nat) (z:α) (h:k < l.length):l.getD k z = l[k]:=by simp [List.getD,h]
theorem way_field {s:List Mes} (hs:sright s = true) {d m:Nat} {l:List UInt8} {x:VW} (hm:m < s.length) (hx:ViewOk s d m l x) {n:Int} {r:List Int} {ns:List (List UInt8)} (hn:namesW s (m:Int) (n :: r) = some ns)
  (hxn:(x.r.number:Int) = n) (hr:r ≠ []) :
  ∃ q d' o:Nat,x.k = q ∧ q < (s.getD m .zero).fields.length ∧ ((s.getD m .zero).fields.getD q .zero).of = o ∧ o < s.length ∧ d = d' + 1 ∧ (vmsg s d' o (vbytes l x)).2 = 0 ∧ ∃ ns',namesW s (o:Int) r = some ns':=by
 rw [namesW] at hn
 cases hf:fieldOfNum s (m:Int) n with
 | none => rw [hf] at hn;cases hn
 | some f =>
  rw [hf] at hn
  simp only at hn
  by_cases hc:r ≠ [] ∧ (f.rep = true ∨ f.kind ≠ 17)
  ·
   rw [if_pos hc] at hn;cases hn
  ·
   rw [if_neg hc] at hn
   have h17:f.kind = 17:=by
    by_cases h:f.kind = 17
    ·
     exact h
    ·
     exact absurd ⟨hr,.inr h⟩ hc
   obtain ⟨ns',hns,-⟩:=Option.map_eq_some_iff.1 hn
   unfold fieldOfNum at hf
   rw [Int.toNat_natCast] at hf
   have hfm:=List.mem_of_find?_eq_some hf
   have hfn:f.number = n:=by simpa using List.find?_some hf
   obtain ⟨j,hj⟩:=hx.look
   have hmem:s.getD m .zero ∈ s:=by
    rw [getD_in' _ _ _ hm];exact List.getElem_mem hm
   rcases vlook_cases (s.getD m .zero).fields l j with ⟨c,hc',e,-⟩ | ⟨r',h1,h2,h3,h4,h5,e | ⟨k,run,hk,e,h6,-⟩⟩
   ·
    rw [e] at hj
    exact absurd (congrArg (fun t => t.2.2.2) hj) (by simpa using hc')
   ·
    have hu:=vlook_unknown e
    rw [e] at hj
    have e1:r' = x.r:=congrArg (fun t => t.1) hj
    rw [e1,hxn] at hu
    have h7:fieldAt (s.getD m .zero).fields n = -1:=by
     rcases fieldAt_cases (s.getD m .zero).fields n with h | ⟨k,-,h,-⟩
     ·
      exact h
     ·
      omega
    have:=firstAt_none _ _ 0 h7 f hfm
    simp at this
    exact absurd hfn this
   ·
    rw [e] at hj
    have e1:r' = x.r:=congrArg (fun t => t.1) hj
    have e2:(k:Int) = x.k:=congrArg (fun t => t.2.1) hj
    rw [e1] at h6
    have hgm:(s.getD m .zero).fields.getD k .zero ∈ (s.getD m .zero).fields:=by
     rw [getD_in' _ _ _ hk];exact List.getElem_mem hk
    have hfa:=find_apart _ (sright_apart hs _ hmem) _ hgm
    rw [h6,hxn] at hfa
    have hff:f = (s.getD m .zero).fields.getD k .zero:=by
     rw [hf] at hfa
     exact Option.some.inj hfa
    obtain ⟨d',hd',hv⟩:=hx.sub (k:=k) e2.symm (by rw [← hff];exact h17)
    have hof:=(sright_field hs m hm f hfm).2.1 h17
    obtain ⟨o,ho⟩:∃ o:Nat,f.of = o:=⟨f.of.toNat,by omega⟩
    rw [← hff,ho,Int.toNat_natCast] at hv
    exact ⟨k,d',o,e2.symm,hk,by rw [← hff];exact ho,by omega,hd',hv,ns',by rw [← ho];exact hns⟩
end Go.Proofs.YtfimpmennkfjcaaGreatDoor
