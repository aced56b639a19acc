/- path.Right; darningref12: Split, Join, Names, Shared, Same. Texts are at most 2^40 bytes. mask.args, lead: maskCode, wayP. Names are at most 2^47 bytes. -/
import Derived.Test.YtfimpmennkfjcaaGreatDoorZ07
import Derived.Test.YtfimpmennkfjcaaGreatDoorZ10
import Derived.Test.YtfimpmennkfjcaaGreatDoorZ36
import Derived.Test.YtfimpmennkfjcaaGreatDoorZ37
namespace Go.Proofs.YtfimpmennkfjcaaGreatDoor
open Go.RowKit
theorem size_strp (w:World):(sizeOf 9).run Tryz.prog w = .ok 1 w:=by kernel_rfl
theorem sjoin_len:∀ l:List (List UInt8),(sjoin l).length ≤ twt l
 | [] => by simp [sjoin]
 | [x] => by simp [sjoin,twt]
 | x :: y :: r => by
  have:=sjoin_len (y :: r)
  rw [sjoin]
  simp [twt] at this ⊢
  omega
theorem twt_take' (l:List (List UInt8)) (k:Nat):twt (l.take k) ≤ twt l:=sum_take_le _ l k
end Go.Proofs.YtfimpmennkfjcaaGreatDoor
namespace Go.Proofs.YtfimpmennkfjcaaGreatDoor
open Go.RowKit
def maskArgs (s:List Mes) (root:Int):Nat:=if sright s = false then 9 else if root < 0 ∨ (s.length:Int) ≤ root then 2 else 0
set_option maxRecDepth 100000 in
set_option maxHeartbeats 4000000 in
theorem mask_args {w:World} {sv:Value} {s:List Mes} (hS:SchemaAt w sv s) (root:Int) :
  Calls Tryz.prog 75 #[sv,.int .i64 root] w fun e w' => e = .returned (.int .u8 (maskArgs s root:Nat)) ∧ Below w.heap.size w w':=by
 have HR:=hid (schema_Right hS)
 obtain ⟨hn,a,c,rfl,-⟩:=hS.open
 obtain ⟨n,HN⟩:∃ n,Hid (n = s.length):=⟨_,rfl⟩
 rw [← HN.out] at hn HR ⊢
 obtain ⟨y,HY⟩:∃ y,Hid (y = sright s):=⟨_,rfl⟩
 rw [← HY.out] at HR
 obtain ⟨z,HZ⟩:∃ z,Hid (z = maskArgs s root):=⟨_,rfl⟩
 rw [← HZ.out]
 clear hS
 go_enter Tryz.func75,Tryz.ntmps75
 go_wp2_with fail
 refine HR.out.mono ?_
 rintro e w1 ⟨rfl,hb⟩
 have HB:=hid hb
 clear hb
 cases y with
 | false =>
  have HE:Hid (z = 9):=by rw [Hid,HZ.out,maskArgs,if_pos HY.out.symm]
  go_wp2_with fail
  go_ret
  exact ⟨by rw [HE.out];first | done | rfl,HB.out⟩
 | true =>
  by_cases h0:root < 0
  ·
   have HE:Hid (z = 2):=by rw [Hid,HZ.out,maskArgs,if_neg (by rw [← HY.out];decide),if_pos (.inl h0)]
   go_wp2_with fail
   go_ret
   exact ⟨by rw [HE.out];first | done | rfl,HB.out⟩
  ·
   by_cases h1:(n:Int) ≤ root
   ·
    have HE:Hid (z = 2):=by rw [Hid,HZ.out,maskArgs,if_neg (by rw [← HY.out];decide),if_pos (.inr (by rw [← HN.out];exact h1))]
    go_wp2_with fail
    go_ret
    exact ⟨by rw [HE.out];first | done | rfl,HB.out⟩
   ·
    have HE:Hid (z = 0):=by rw [Hid,HZ.out,maskArgs,if_neg (by rw [← HY.out];decide),if_neg (by rw [← HN.out];omega)]
    go_wp2_with fail
    go_ret
    exact ⟨by rw [HE.out];first | done | rfl,HB.out⟩
def fieldNamed (s:List Mes) (root:Int) (t:List UInt8):Option Fld:=
 if 0 ≤ namedAt (s.getD root.toNat .zero).fields ⟨t.toArray⟩ then some ((s.getD root.toNat .zero).fields.getD (namedAt (s.getD root.toNat .zero).fields ⟨t.toArray⟩).toNat .zero) else none
def wayP (s:List Mes):List (List UInt8) → Int → Option (List Int)
 | [],_ => some []
 | t :: r,root => match fieldNamed s root t with
  | none => none
  | some f => if r = [] then some [f.number] else if f.rep = true ∨ f.kind ≠ 17 then none else (wayP s r f.of).map (f.number :: ·)
def LeadPost (w:World) (o:Option (List Int)) (e:Ending) (w':World):Prop:=∃ v',e = .returned (.tuple #[v',.bool o.isSome]) ∧ IntsOwn w' w.heap.size v' (o.getD []) ∧ Below w.heap.size w w'
set_option maxRecDepth 100000 in
set_option maxHeartbeats 4000000 in
theorem mask_lead {w:World} {sv nv:Value} {s:List Mes} {names:List (List UInt8)} (hS:SchemaAt w sv s) (hs:sright s = true) (hN:StrsAt w nv names) (hl:names.length ≤ 1099511627776) (root:Nat) (hroot:root < s.length) :
  Calls Tryz.prog 77 #[sv,.int .i64 (root:Int),nv] w (LeadPost w (wayP s names root)):=by
 have HS:=hid hS
 have HSR:=hid hs
 obtain ⟨hm,sa,sc,rfl,hsat⟩:=hS.open
 obtain ⟨m,HM⟩:∃ m,Hid (m = s.length):=⟨_,rfl⟩
 rw [← HM.out] at hm HS hroot hsat ⊢
 obtain ⟨-,na,nc,rfl,-,hnat⟩:=hN.open
 obtain ⟨n,HNN⟩:∃ n,Hid (n = names.length):=⟨_,rfl⟩
 rw [← HNN.out] at hl ⊢
 obtain ⟨Q,HQ⟩:∃ Q:Ending → World → Prop,Hid (Q = LeadPost w (wayP s names root)):=⟨_,rfl⟩
 rw [← HQ.out]
 have HBAD:Hid (∀ w',Below w.heap.size w w' → wayP s names root = none → Q (.returned (.tuple #[.slice none 0 0,.bool false])) w'):=by
  intro w' hb h
  rw [HQ.out,h]
  exact ⟨_,rfl,World.ownsRow_nil _ _ _ _,hb⟩
 have HGOOD:Hid (∀ w' v l,Below w.heap.size w w' → wayP s names root = some l → IntsOwn w' w.heap.size v l → Q (.returned (.tuple #[v,.bool true])) w'):=by
  intro w' v l hb h ho
  rw [HQ.out,h]
  exact ⟨_,rfl,ho,hb⟩
 have HSAT:=hid hsat
 have HNAT:=hid hnat
 clear hS hs hN hsat hnat
 go_enter Tryz.func77,Tryz.ntmps77
 go_wp2_with fail
 go_loopw [1,8,16] (fun v1 v8 v16 wr => ∃ (r i:Nat) (wl:List Int),v1 = .int .i64 r ∧ v16 = .int .i64 i ∧ r < m ∧ i ≤ n ∧ Hid (IntsOwn wr w.heap.size v8 wl ∧ Below w.heap.size w wr ∧ wl.length = i ∧ wayP s names root = (wayP s (names.drop i) r).map (wl ++ ·))) (fun _ _ v16 _ => n - (intOf v16).toNat)
 case atStart => exact ⟨root,0,[],rfl,rfl,hroot,by omega,World.ownsRow_nil _ _ _ _,Below.refl _ _,rfl,by simp⟩
 case round =>
  obtain ⟨r,i,wl,rfl,rfl,hr,hi,HI⟩:=hrel
  obtain ⟨oa,oc,hoe⟩:=HI.out.1.form
  rw [HI.out.2.2.1] at hoe
  subst hoe
  by_cases hlt:i < n
  ·
   obtain ⟨t,ht⟩:∃ t,names[i]? = some t:=⟨_,List.getElem?_eq_getElem (by rw [← HNN.out];exact hlt)⟩
   obtain ⟨htl,b,o,ha,g0⟩:=HNAT.out i t ht
   have hix:=index_run1 Tryz.underlying25 size_strp ha i hlt (cap:=nc)
   obtain ⟨b2,o2,fv,ha2,hnl,g1,g2,hF⟩:=HSAT.out r hr
   have hix2:=index_run Tryz.underlying23 size_mes ha2 r hr (cap:=sc)
   have hkp:=below_keeps HI.out.2.1
   replace g0:=hkp _ _ g0
   replace g1:=hkp _ _ g1
   replace g2:=hkp _ _ g2
   unfold strV at g0
   obtain ⟨fs,HFS⟩:∃ fs,Hid (fs = (s.getD r .zero).fields):=⟨_,rfl⟩
   rw [← HFS.out] at hF
   obtain ⟨nm,HNM⟩:∃ nm,Hid (nm = (s.getD r .zero).name):=⟨_,rfl⟩
   rw [← HNM.out] at g1
   have hF':=hF.keep hkp
   have HBY:=hid (schema_ByName hF' nm ⟨t.toArray⟩)
   obtain ⟨hfl,fa,fc,rfl,hfat⟩:=hF'.open
   obtain ⟨fn,HFN⟩:∃ fn,Hid (fn = fs.length):=⟨_,rfl⟩
   rw [← HFN.out] at hfl hfat g2 HBY
   have HD:=hid (drop_at ht)
   have HFNM:Hid (fieldNamed s (r:Int) t = if 0 ≤ namedAt fs ⟨t.toArray⟩ then some (fs.getD (namedAt fs ⟨t.toArray⟩).toNat .zero) else none):=by
    rw [Hid,fieldNamed,Int.toNat_natCast,← HFS.out]
   obtain ⟨kx,HKX⟩:∃ kx,Hid (kx = namedAt fs ⟨t.toArray⟩):=⟨_,rfl⟩
   rw [← HKX.out] at HFNM HBY
   have HFAT:=hid hfat
   clear ht ha ha2 hnl hF hF' hkp hfat htl
   by_cases hk0:0 ≤ kx
   ·
    obtain ⟨kk,hkk,hkf⟩:∃ kk:Nat,kx = kk ∧ kk < fn:=by
     rcases firstAt_bd (fun f:Fld => decide (f.name = ⟨t.toArray⟩)) fs 0 with h | ⟨j,h,h1,h2⟩
     ·
      have:=HKX.out;unfold namedAt at this;omega
     ·
      exact ⟨j,by have:=HKX.out;unfold namedAt at this;omega,by rw [HFN.out];omega⟩
    subst hkk
    rw [if_pos hk0,decide_eq_true hk0] at HBY
    rw [if_pos hk0,Int.toNat_natCast] at HFNM
    obtain ⟨b3,o3,ha3,hok,f0,f1,f2,f3,f4,f5⟩:=HFAT.out kk hkf
    have hix3:=index_run Tryz.underlying65 size_fld ha3 kk hkf (cap:=fc)
    obtain ⟨f,HF⟩:∃ f,Hid (f = fs.getD kk .zero):=⟨_,rfl⟩
    rw [← HF.out] at hok f0 f1 f2 f3 f4 f5 HFNM
    have HFMEM:Hid (f ∈ (s.getD r .zero).fields):=by
     rw [Hid,← HFS.out,HF.out]
     have:kk < fs.length:=by rw [← HFN.out];exact hkf
     rw [List.getD_eq_getElem?_getD,List.getElem?_eq_getElem this]
     exact List.getElem_mem this
    have HOK:=hid hok
    have HF0:=hid f0
    have HF1:=hid f1
    have HF2:=hid f2
    have HF3:=hid f3
    have HF4:=hid f4
    have HF5:=hid f5
    have HG1:=hid g1
    have HG2:=hid g2
    obtain ⟨fname,fnum,fkind,frep,fpack,fof⟩:=f
    simp only at f0 f1 f2 f3 f4 f5
    clear hk0 ha3 hok f0 f1 f2 f3 f4 f5
    go_wp2_with fail
    refine HBY.out.mono ?_
    rintro e w1 ⟨rfl,hb⟩
    have HB1:Hid (Below w.heap.size w w1):=below_step HI.out.2.1 hb HI.out.2.1.size
    have hkp:=below_keeps hb
    replace g1:=hkp _ _ g1
    replace g2:=hkp _ _ g2
    have f0:=hkp _ _ HF0.out
    have f1:=hkp _ _ HF1.out
    have f2:=hkp _ _ HF2.out
    have f3:=hkp _ _ HF3.out
    have f4:=hkp _ _ HF4.out
    have f5:=hkp _ _ HF5.out
    have HOW:=hid (HI.out.1.later hb)
    clear hb hkp
    have hwl:wl.length = i:=HI.out.2.2.1
    have HWL:=hid hwl
    have hsz1:w.heap.size ≤ w1.heap.size:=HB1.out.size
    go_wp2_with (at_builtin;refine wpList_append_int rfl _ _ rfl rfl _ _ _ rfl rfl rfl ?c0 w.heap.size wl ?c1 ?c2 ?c3 ?c4 ?_)
    case c0 => simp
    case c1 =>
     refine HOW.out.later ?_
     (repeat (first | with_reducible exact Below.refl _ _ | with_reducible refine Below.setCell ?_ (by first | omega | (simp;omega) | (simp;done)) _ | with_reducible refine Below.alloc ?_ (by first | omega | (simp;omega) | (simp;done)) _ | with_reducible refine below_drewN ?_ _ | with_reducible refine Below.drew ?_))
    case c2 => exact HOK.out.number
    case c3 => rw [hwl];omega
    case c4 => simp;omega
    intro a' c' w5 hO5 hB5 hK5
    have hBX:Blk w5 w1.heap.size [.string fname,.int .i64 fnum,.int .i64 fkind,.bool frep,.bool fpack,.int .i64 fof] 64:=(hK5 _ (by simp) (fun e => by have:=(World.ownsRow.lt HOW.out _ e).2;omega)).trans (Blk.new w1 [.string fname,.int .i64 fnum,.int .i64 fkind,.bool frep,.bool fpack,.int .i64 fof] _)
    have HO5:=hid hO5
    have HB5:Hid (Below w.heap.size w w5):=hB5 w (by refine HB1.out.trans ?_;refine Below.mono ?_ hsz1;(repeat (first | with_reducible exact Below.refl _ _ | with_reducible refine Below.setCell ?_ (by first | omega | (simp;omega) | (simp;done)) _ | with_reducible refine Below.alloc ?_ (by first | omega | (simp;omega) | (simp;done)) _ | with_reducible refine below_drewN ?_ _ | with_reducible refine Below.drew ?_)))
    have b2':=hBX.cell 2 _ rfl
    have b3':=hBX.cell 3 _ rfl
    have b5':=hBX.cell 5 _ rfl
    have HN1:Hid (wayP s names root = if names.drop (i + 1) = [] then some (wl ++ [fnum]) else if frep = true ∨ fkind ≠ 17 then none else (wayP s (names.drop (i + 1)) fof).map ((wl ++ [fnum]) ++ ·)):=by
     rw [Hid,HI.out.2.2.2,HD.out,wayP,HFNM.out]
     simp only
     split
     ·
      simp
     ·
      split
      ·
       simp
      ·
       cases wayP s (List.drop (i + 1) names) fof <;> simp
    clear hO5 hB5 hK5 hBX
    by_cases hlast:i + 1 = n
    ·
     have HNIL:Hid (names.drop (i + 1) = []):=List.drop_eq_nil_of_le (by rw [← HNN.out];omega)
     rw [if_pos HNIL.out] at HN1
     have e1:((i:Int) == (n:Int) - 1) = true:=by simp;omega
     have e2:decide ((i:Int) = (n:Int) - 1) = true:=decide_eq_true (by omega)
     clear hlast
     go_wp2_with fail
     exact HGOOD.out _ _ _ HB5.out HN1.out HO5.out
    ·
     have HNNIL:Hid (names.drop (i + 1) ≠ []):=fun e => by
      have:=congrArg List.length e
      rw [List.length_drop,← HNN.out] at this
      simp at this;omega
     rw [if_neg HNNIL.out] at HN1
     have e1:((i:Int) == (n:Int) - 1) = false:=by simp;omega
     have e2:decide ((i:Int) = (n:Int) - 1) = false:=decide_eq_false (by omega)
     cases frep with
     | true =>
      rw [if_pos (.inl rfl)] at HN1
      clear hlast
      go_wp2_with fail
      exact HBAD.out _ HB5.out HN1.out
     | false =>
      by_cases h17:fkind = 17
      ·
       rw [if_neg (by simp [h17])] at HN1
       obtain ⟨hof0,hof1⟩:=(sright_field HSR.out r (by rw [← HM.out];exact hr) _ HFMEM.out).2.1 h17
       simp only at hof0 hof1
       obtain ⟨q,rfl⟩:∃ q:Nat,fof = q:=⟨fof.toNat,by omega⟩
       have hqm:q < m:=by rw [HM.out];omega
       subst h17
       clear hof0 hof1
       go_wp2_with fail
       go_roundw
       case rel => exact ⟨q,i + 1,wl ++ [fnum],by go_num,by go_num,hqm,by omega,HO5.out,HB5.out,by rw [List.length_append,HWL.out];rfl,HN1.out⟩
       case measure => simp [intOf];omega
      ·
       rw [if_pos (.inr h17)] at HN1
       have k1:(fkind != 17) = true:=by simpa using h17
       have k2:(fkind == 17) = false:=by simpa using h17
       have k3:decide (fkind = 17) = false:=decide_eq_false h17
       clear hlast h17
       go_wp2_with fail
       exact HBAD.out _ HB5.out HN1.out
   ·
    rw [if_neg hk0,decide_eq_false hk0] at HBY
    rw [if_neg hk0] at HFNM
    have HX:Hid (wayP s names root = none):=by
     rw [Hid,HI.out.2.2.2,HD.out,wayP,HFNM.out];rfl
    clear hk0
    go_wp2_with fail
    refine HBY.out.mono ?_
    rintro e w1 ⟨rfl,hb⟩
    have HB1:Hid (Below w.heap.size w w1):=below_step HI.out.2.1 hb HI.out.2.1.size
    clear hb
    go_wp2_with fail
    exact HBAD.out _ HB1.out HX.out
  ·
   obtain rfl:i = n:=by omega
   have HX:Hid (wayP s names root = some wl):=by
    rw [Hid,HI.out.2.2.2,List.drop_eq_nil_of_le (by rw [← HNN.out];omega),wayP];simp
   go_wp2_with fail
   exact HGOOD.out _ _ _ HI.out.2.1 HX.out HI.out.1
end Go.Proofs.YtfimpmennkfjcaaGreatDoor
