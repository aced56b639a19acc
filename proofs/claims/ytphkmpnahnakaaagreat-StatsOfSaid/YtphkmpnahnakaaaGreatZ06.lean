/- What the document's Fault of a field returns, of any schema: fieldFault. The two places lie in the schema. What the document's Check, Right and Field of schemas return, of any schema: scheck, sright, fieldAt. No condition beyond that the argument reads as a schema. -/
import Derived.Test.YtphkmpnahnakaaaGreatZ05
namespace Go.Proofs.YtphkmpnahnakaaaGreat
open Go.RowKit
theorem nameMet_step (fs:List Fld) (j:Nat) (t:ByteArray) (hj:j < fs.length):nameMet (fs.take (j + 1)) t = (nameMet (fs.take j) t || decide ((fs.getD j .zero).name = t)):=by
 have e:fs.getD j .zero = fs[j]:=by simp [List.getD,hj]
 rw [List.take_succ_eq_append_getElem hj,e]
 simp only [nameMet,List.any_append,List.any_cons,List.any_nil,Bool.or_false]
theorem numMet_step (fs:List Fld) (j:Nat) (x:Int) (hj:j < fs.length):numMet (fs.take (j + 1)) x = (numMet (fs.take j) x || decide ((fs.getD j .zero).number = x)):=by
 have e:fs.getD j .zero = fs[j]:=by simp [List.getD,hj]
 rw [List.take_succ_eq_append_getElem hj,e]
 simp only [numMet,List.any_append,List.any_cons,List.any_nil,Bool.or_false]
theorem str_beq (a b:ByteArray):(a.toList == b.toList) = decide (a = b):=by
 rw [Bool.eq_iff_iff,beq_iff_eq,toList_inj,decide_eq_true_iff]
def boxAt (w:World) (B:Nat) (f:Fld):Prop:=w.heap[B]? = some (.cells #[.string f.name,.int .i64 f.number,.int .i64 f.kind,.bool f.rep,.bool f.packed,.int .i64 f.of] 48 (0,0))
theorem boxAt.cells {w:World} {B:Nat} {f:Fld} (h:boxAt w B f):w.cell? ⟨B,0,none⟩ = some (.string f.name) ∧ w.cell? ⟨B,1,none⟩ = some (.int .i64 f.number) ∧ w.cell? ⟨B,2,none⟩ = some (.int .i64 f.kind) ∧
  w.cell? ⟨B,3,none⟩ = some (.bool f.rep) ∧ w.cell? ⟨B,4,none⟩ = some (.bool f.packed) ∧ w.cell? ⟨B,5,none⟩ = some (.int .i64 f.of) ∧ B < w.heap.size:=by
 unfold boxAt at h
 refine ⟨by simp [World.cell?,h],by simp [World.cell?,h],by simp [World.cell?,h],by simp [World.cell?,h],by simp [World.cell?,h],by simp [World.cell?,h],?_⟩
 rw [Array.getElem?_eq_some_iff] at h
 exact h.1
set_option maxRecDepth 100000 in
set_option maxHeartbeats 20000000 in
theorem ref07_Fault {w:World} {v:Value} {s:List Mes} (h:SchemaAt w v s) (i k:Nat) (hi:i < s.length) (fs:List Fld) (hfs:fs = (s.getD i .zero).fields) (hk:k < fs.length) (f:Fld) (hf:f = fs.getD k .zero) :
  Calls Tryz.prog 89 #[v,.int .i64 i,.int .i64 k] w fun e w' => e = .returned (.int .i64 (fieldFault s.length (nameMet (fs.take k) f.name) (numMet (fs.take k) f.number) f)) ∧ Below w.heap.size w w':=by
 obtain ⟨hlen,a,cap,rfl,hat⟩:=h.open
 obtain ⟨n,HN⟩:∃ n,Hid (n = s.length):=⟨_,rfl⟩
 obtain ⟨b,o,fv,ha,hnsz,hc0,hc1,hfat0⟩:=hat i hi
 rw [← HN.out] at hlen hi ⊢
 have hix:=index_run Tryz.underlying23 size_mes ha i hi (cap:=cap)
 have hbl:b < w.heap.size:=World.block_lt_of_cell? w _ hc0
 rw [← hfs] at hfat0
 obtain ⟨hflen,fa,fcap,rfl,hfat⟩:=hfat0.open
 obtain ⟨fl,HFL⟩:∃ fl,Hid (fl = fs.length):=⟨_,rfl⟩
 rw [← HFL.out] at hfat hflen hc1 hk
 obtain ⟨fb,fo,hfa,hfok,g0,g1,g2,g3,g4,g5⟩:=hfat k hk
 rw [← hf] at hfok g0 g1 g2 g3 g4 g5
 have hixf:=index_run Tryz.underlying49 size_fld hfa k hk (cap:=fcap)
 have hfbl:fb < w.heap.size:=World.block_lt_of_cell? w _ g0
 have HFAT:=hid hfat
 have HA:=hid ha
 have HFA:=hid hfa
 have HF:=hid hf
 have HFS:=hid hfs
 clear ha hfa hfat hat hfat0 hf hfs
 obtain ⟨hk1,hk2,hk3,hk4⟩:=hfok
 obtain ⟨nm,HNM⟩:∃ nm,Hid (nm = nameMet (fs.take k) f.name):=⟨_,rfl⟩
 obtain ⟨nu,HNU⟩:∃ nu,Hid (nu = numMet (fs.take k) f.number):=⟨_,rfl⟩
 rw [← HNM.out,← HNU.out]
 obtain ⟨K,HKF⟩:∃ K,Hid (K = fieldFault n nm nu f):=⟨_,rfl⟩
 rw [← HKF.out]
 unfold fieldFault at HKF
 obtain ⟨B,HB⟩:∃ B,Hid (B = w.heap.size):=⟨_,rfl⟩
 have hwB:w.heap.size ≤ B:=by rw [HB.out];exact Nat.le_refl _
 go_enter Tryz.func89,Tryz.ntmps89
 go_wp2
 rw [← HB.out]
 go_loopw [8,9,10] (fun v8 v9 v10 wr => ∃ j:Nat,j ≤ k ∧ v10 = .int .i64 j ∧ v8 = .bool (nameMet (fs.take j) f.name) ∧ v9 = .bool (numMet (fs.take j) f.number) ∧ Hid (Below B w wr ∧ boxAt wr B f)) (fun _ _ v10 _ => k - (intOf v10).toNat)
 case atStart =>
  refine ⟨0,by omega,rfl,rfl,rfl,?_,?_⟩
  ·
   rw [HB.out];(repeat (first | with_reducible exact Below.refl _ _ | with_reducible refine Below.setCell ?_ (by first | omega | (simp;omega) | (simp;done)) _ | with_reducible refine Below.alloc ?_ (by first | omega | (simp;omega) | (simp;done)) _ | with_reducible refine below_drewN ?_ _ | with_reducible refine Below.drew ?_))
  ·
   unfold boxAt;rw [HB.out];exact heap_alloc_new w _
 case round =>
  obtain ⟨j,hj,rfl,rfl,rfl,HW⟩:=hrel
  have hkw:∀ p u,w.cell? p = some u → wr.cell? p = some u:=fun p u hu => (Below.cell (p:=p) HW.out.1 (by rw [HB.out];exact World.block_lt_of_cell? w p hu)).trans hu
  have c0:=hkw _ _ hc0
  have c1:=hkw _ _ hc1
  have HKW:=hid hkw
  clear hkw
  obtain ⟨x0,x1,x2,x3,x4,x5,hBl⟩:=HW.out.2.cells
  obtain ⟨bn,HBN⟩:∃ bn,Hid (bn = nameMet (fs.take j) f.name):=⟨_,rfl⟩
  obtain ⟨bu,HBU⟩:∃ bu,Hid (bu = numMet (fs.take j) f.number):=⟨_,rfl⟩
  rw [← HBN.out,← HBU.out]
  by_cases hlt:j < k
  ·
   have hfat:=HFAT.out
   obtain ⟨fb2,fo2,hfa2,-,q0,q1,-,-,-,-⟩:=hfat j (by omega)
   have hixj:=index_run Tryz.underlying49 size_fld hfa2 j (len:=fl) (by omega) (cap:=fcap)
   have hkw:=HKW.out
   have r0:=hkw _ _ q0
   have r1:=hkw _ _ q1
   have HFA2:=hid hfa2
   clear hkw hfa2 hfat q0 q1
   obtain ⟨g,HG⟩:∃ g,Hid (g = fs.getD j .zero):=⟨_,rfl⟩
   rw [← HG.out] at r0 r1
   have hb1:=str_beq g.name f.name
   have HN1:=hid (nameMet_step fs j f.name (by rw [← HFL.out];omega))
   have HN2:=hid (numMet_step fs j f.number (by rw [← HFL.out];omega))
   rw [← HBN.out,← HG.out] at HN1
   rw [← HBU.out,← HG.out] at HN2
   cases bn <;> cases bu
   all_goals
    go_wp2
    go_quiet (fail)
    go_wp2
    go_quiet (fail)
    go_wp2
    go_roundw
    case rel =>
     refine ⟨j + 1,by omega,by go_num,?_,?_,?_,?_⟩
     ·
      rw [HN1.out];simp
     ·
      rw [HN2.out];simp <;> rfl
     ·
      exact below_drewN HW.out.1 _
     ·
      exact HW.out.2
    case measure => simp [intOf];omega
  ·
   obtain rfl:j = k:=by omega
   obtain rfl:bn = nm:=by rw [HBN.out,HNM.out]
   obtain rfl:bu = nu:=by rw [HBU.out,HNU.out]
   have hbel:Below B w wr:=HW.out.1
   have HBEL:=hid hbel
   clear hbel
   obtain ⟨name,number,kind,rep,packed,of⟩:=f
   simp only at x0 x1 x2 x3 x4 x5 HKF hk1 hk2 hk3 hk4
   go_wp2_with fail
   refine (ref07_Name name (by omega) _).mono ?_
   rintro e w' ⟨rfl,rfl⟩
   by_cases hN:nameOk name = true
   ·
    have HNO:=hid hN
    clear hN
    rw [HNO.out]
    have hkf:=HKF.out
    rw [if_neg (by rw [HNO.out];decide)] at hkf
    have HK1:=hid hkf
    clear hkf
    cases bn with
    | true =>
     go_wp2
     go_ret
     obtain rfl:K = 6:=HK1.out.trans rfl
     exact ⟨rfl,by (repeat (first | with_reducible exact Below.refl _ _ | with_reducible refine Below.setCell ?_ (by first | omega | (simp;omega) | (simp;done)) _ | with_reducible refine Below.alloc ?_ (by first | omega | (simp;omega) | (simp;done)) _ | with_reducible refine below_drewN ?_ _ | with_reducible refine Below.drew ?_));exact HBEL.out.mono hwB⟩
    | false =>
     have hkf:=HK1.out
     rw [if_neg (by decide)] at hkf
     have HK2:=hid hkf
     clear hkf
     have HNU2:Hid (numOk number = false ↔ (number < 1 ∨ 536870911 < number ∨ 19000 ≤ number ∧ number < 20000)):=by simp [Hid,numOk];omega
     rcases (show number < 1 ∨ (1 ≤ number ∧ number < 19000) ∨ (19000 ≤ number ∧ number < 20000) ∨ (20000 ≤ number ∧ number ≤ 536870911) ∨ 536870911 < number by omega) with hx | hx | hx | hx | hx
     ·
      have HU:Hid (numOk number = false):=HNU2.out.2 (by omega)
      have d1:decide (number < 1) = true:=by simp;omega
      clear hx
      go_wp2
      go_ret
      obtain rfl:K = 7:=by rw [HK2.out,if_pos HU.out]
      exact ⟨rfl,by (repeat (first | with_reducible exact Below.refl _ _ | with_reducible refine Below.setCell ?_ (by first | omega | (simp;omega) | (simp;done)) _ | with_reducible refine Below.alloc ?_ (by first | omega | (simp;omega) | (simp;done)) _ | with_reducible refine below_drewN ?_ _ | with_reducible refine Below.drew ?_));exact HBEL.out.mono hwB⟩
     ·
      have HU:Hid (¬ numOk number = false):=fun e => by have:=HNU2.out.1 e;omega
      have d1:decide (number < 1) = false:=by simp;omega
      have d2:decide (536870911 < number) = false:=by simp;omega
      have d3:decide (19000 ≤ number) = false:=by simp;omega
      clear hx
      have hkf:=HK2.out
      rw [if_neg HU.out] at hkf
      have HK3:=hid hkf
      clear hkf
      cases bu with
      | true =>
       go_wp2
       go_ret
       obtain rfl:K = 8:=HK3.out.trans rfl
       exact ⟨rfl,by (repeat (first | with_reducible exact Below.refl _ _ | with_reducible refine Below.setCell ?_ (by first | omega | (simp;omega) | (simp;done)) _ | with_reducible refine Below.alloc ?_ (by first | omega | (simp;omega) | (simp;done)) _ | with_reducible refine below_drewN ?_ _ | with_reducible refine Below.drew ?_));exact HBEL.out.mono hwB⟩
      | false =>
       have hkf:=HK3.out
       rw [if_neg (by decide)] at hkf
       have HK4:=hid hkf
       clear hkf
       by_cases hK:kright kind = true
       ·
        have HK:=hid hK
        clear hK
        have hkf:=HK4.out
        rw [if_neg (by rw [HK.out];decide)] at hkf
        have HK5:=hid hkf
        clear hkf
        go_wp2_with fail
        refine (ref06_Right _ _).mono ?_
        rintro e w' ⟨rfl,rfl⟩
        rw [HK.out]
        cases packed with
        | false =>
         have hkf:=HK5.out
         rw [if_neg (by simp)] at hkf
         have HK6:=hid hkf
         clear hkf
         by_cases h17:kind = 17
         ·
          by_cases ho:of < 0 ∨ (n:Int) ≤ of
          ·
           have HO:Hid (K = 11):=by rw [HK6.out];exact if_pos (.inl ⟨h17,ho⟩)
           subst h17
           rcases ho with ho | ho
           ·
            go_wp2
            go_ret
            obtain rfl:K = 11:=HO.out
            exact ⟨rfl,by (repeat (first | with_reducible exact Below.refl _ _ | with_reducible refine Below.setCell ?_ (by first | omega | (simp;omega) | (simp;done)) _ | with_reducible refine Below.alloc ?_ (by first | omega | (simp;omega) | (simp;done)) _ | with_reducible refine below_drewN ?_ _ | with_reducible refine Below.drew ?_));exact HBEL.out.mono hwB⟩
           ·
            have ho2:0 ≤ of:=by omega
            go_wp2
            go_ret
            obtain rfl:K = 11:=HO.out
            exact ⟨rfl,by (repeat (first | with_reducible exact Below.refl _ _ | with_reducible refine Below.setCell ?_ (by first | omega | (simp;omega) | (simp;done)) _ | with_reducible refine Below.alloc ?_ (by first | omega | (simp;omega) | (simp;done)) _ | with_reducible refine below_drewN ?_ _ | with_reducible refine Below.drew ?_));exact HBEL.out.mono hwB⟩
          ·
           have HO:Hid (K = 0):=by rw [HK6.out];exact if_neg (by omega)
           have ho1:0 ≤ of:=by omega
           have ho2:of < (n:Int):=by omega
           clear ho
           subst h17
           go_wp2
           go_ret
           obtain rfl:K = 0:=HO.out
           exact ⟨rfl,by (repeat (first | with_reducible exact Below.refl _ _ | with_reducible refine Below.setCell ?_ (by first | omega | (simp;omega) | (simp;done)) _ | with_reducible refine Below.alloc ?_ (by first | omega | (simp;omega) | (simp;done)) _ | with_reducible refine below_drewN ?_ _ | with_reducible refine Below.drew ?_));exact HBEL.out.mono hwB⟩
         ·
          have h17':(kind == 17) = false:=by simpa using h17
          have h17b:(kind != 17) = true:=by simpa using h17
          by_cases ho:of = 0
          ·
           have HO:Hid (K = 0):=by rw [HK6.out];exact if_neg (by omega)
           have H17:=hid h17
           clear h17
           subst ho
           go_wp2
           go_ret
           obtain rfl:K = 0:=HO.out
           exact ⟨rfl,by (repeat (first | with_reducible exact Below.refl _ _ | with_reducible refine Below.setCell ?_ (by first | omega | (simp;omega) | (simp;done)) _ | with_reducible refine Below.alloc ?_ (by first | omega | (simp;omega) | (simp;done)) _ | with_reducible refine below_drewN ?_ _ | with_reducible refine Below.drew ?_));exact HBEL.out.mono hwB⟩
          ·
           have HO:Hid (K = 11):=by rw [HK6.out];exact if_pos (.inr ⟨h17,ho⟩)
           have ho':(of == 0) = false:=by simpa using ho
           have hob:(of != 0) = true:=by simpa using ho
           have H17:=hid h17
           have HO2:=hid ho
           clear h17 ho
           go_wp2
           go_ret
           obtain rfl:K = 11:=HO.out
           exact ⟨rfl,by (repeat (first | with_reducible exact Below.refl _ _ | with_reducible refine Below.setCell ?_ (by first | omega | (simp;omega) | (simp;done)) _ | with_reducible refine Below.alloc ?_ (by first | omega | (simp;omega) | (simp;done)) _ | with_reducible refine below_drewN ?_ _ | with_reducible refine Below.drew ?_));exact HBEL.out.mono hwB⟩
        | true =>
         cases rep with
         | false =>
          have HO:Hid (K = 10):=by rw [HK5.out];exact if_pos ⟨rfl,.inl rfl⟩
          go_wp2
          go_ret
          obtain rfl:K = 10:=HO.out
          exact ⟨rfl,by (repeat (first | with_reducible exact Below.refl _ _ | with_reducible refine Below.setCell ?_ (by first | omega | (simp;omega) | (simp;done)) _ | with_reducible refine Below.alloc ?_ (by first | omega | (simp;omega) | (simp;done)) _ | with_reducible refine below_drewN ?_ _ | with_reducible refine Below.drew ?_));exact HBEL.out.mono hwB⟩
         | true =>
          by_cases hKN:knumber kind = true
          ·
           have hkf:=HK5.out
           rw [if_neg (by simp [hKN])] at hkf
           have HK6:=hid hkf
           have HKN:=hid hKN
           clear hkf hKN
           go_wp2_with fail
           refine (ref06_Number _ _).mono ?_
           rintro e w' ⟨rfl,rfl⟩
           rw [HKN.out]
           by_cases h17:kind = 17
           ·
            exfalso
            have:=HKN.out
            subst h17
            revert this
            decide
           ·
            have h17':(kind == 17) = false:=by simpa using h17
            have h17b:(kind != 17) = true:=by simpa using h17
            by_cases ho:of = 0
            ·
             have HO:Hid (K = 0):=by rw [HK6.out];exact if_neg (by omega)
             have H17:=hid h17
             clear h17
             subst ho
             go_wp2
             go_ret
             obtain rfl:K = 0:=HO.out
             exact ⟨rfl,by (repeat (first | with_reducible exact Below.refl _ _ | with_reducible refine Below.setCell ?_ (by first | omega | (simp;omega) | (simp;done)) _ | with_reducible refine Below.alloc ?_ (by first | omega | (simp;omega) | (simp;done)) _ | with_reducible refine below_drewN ?_ _ | with_reducible refine Below.drew ?_));exact HBEL.out.mono hwB⟩
            ·
             have HO:Hid (K = 11):=by rw [HK6.out];exact if_pos (.inr ⟨h17,ho⟩)
             have ho':(of == 0) = false:=by simpa using ho
             have hob:(of != 0) = true:=by simpa using ho
             have H17:=hid h17
             have HO2:=hid ho
             clear h17 ho
             go_wp2
             go_ret
             obtain rfl:K = 11:=HO.out
             exact ⟨rfl,by (repeat (first | with_reducible exact Below.refl _ _ | with_reducible refine Below.setCell ?_ (by first | omega | (simp;omega) | (simp;done)) _ | with_reducible refine Below.alloc ?_ (by first | omega | (simp;omega) | (simp;done)) _ | with_reducible refine below_drewN ?_ _ | with_reducible refine Below.drew ?_));exact HBEL.out.mono hwB⟩
          ·
           have hKN2:knumber kind = false:=by simpa using hKN
           have HO:Hid (K = 10):=by rw [HK5.out];exact if_pos ⟨rfl,.inr hKN2⟩
           have HKN:=hid hKN2
           clear hKN hKN2
           go_wp2_with fail
           refine (ref06_Number _ _).mono ?_
           rintro e w' ⟨rfl,rfl⟩
           rw [HKN.out]
           go_wp2
           go_ret
           obtain rfl:K = 10:=HO.out
           exact ⟨rfl,by (repeat (first | with_reducible exact Below.refl _ _ | with_reducible refine Below.setCell ?_ (by first | omega | (simp;omega) | (simp;done)) _ | with_reducible refine Below.alloc ?_ (by first | omega | (simp;omega) | (simp;done)) _ | with_reducible refine below_drewN ?_ _ | with_reducible refine Below.drew ?_));exact HBEL.out.mono hwB⟩
       ·
        have hK2:kright kind = false:=by simpa using hK
        have HK:=hid hK2
        clear hK hK2
        go_wp2_with fail
        refine (ref06_Right _ _).mono ?_
        rintro e w' ⟨rfl,rfl⟩
        rw [HK.out]
        go_wp2
        go_ret
        obtain rfl:K = 9:=by rw [HK4.out,if_pos HK.out]
        exact ⟨rfl,by (repeat (first | with_reducible exact Below.refl _ _ | with_reducible refine Below.setCell ?_ (by first | omega | (simp;omega) | (simp;done)) _ | with_reducible refine Below.alloc ?_ (by first | omega | (simp;omega) | (simp;done)) _ | with_reducible refine below_drewN ?_ _ | with_reducible refine Below.drew ?_));exact HBEL.out.mono hwB⟩
     ·
      have HU:Hid (numOk number = false):=HNU2.out.2 (by omega)
      have d1:decide (number < 1) = false:=by simp;omega
      have d2:decide (536870911 < number) = false:=by simp;omega
      have d3:decide (19000 ≤ number) = true:=by simp;omega
      have d4:decide (number < 20000) = true:=by simp;omega
      clear hx
      go_wp2
      go_ret
      obtain rfl:K = 7:=by rw [HK2.out,if_pos HU.out]
      exact ⟨rfl,by (repeat (first | with_reducible exact Below.refl _ _ | with_reducible refine Below.setCell ?_ (by first | omega | (simp;omega) | (simp;done)) _ | with_reducible refine Below.alloc ?_ (by first | omega | (simp;omega) | (simp;done)) _ | with_reducible refine below_drewN ?_ _ | with_reducible refine Below.drew ?_));exact HBEL.out.mono hwB⟩
     ·
      have HU:Hid (¬ numOk number = false):=fun e => by have:=HNU2.out.1 e;omega
      have d1:decide (number < 1) = false:=by simp;omega
      have d2:decide (536870911 < number) = false:=by simp;omega
      have d3:decide (19000 ≤ number) = true:=by simp;omega
      have d4:decide (number < 20000) = false:=by simp;omega
      clear hx
      have hkf:=HK2.out
      rw [if_neg HU.out] at hkf
      have HK3:=hid hkf
      clear hkf
      cases bu with
      | true =>
       go_wp2
       go_ret
       obtain rfl:K = 8:=HK3.out.trans rfl
       exact ⟨rfl,by (repeat (first | with_reducible exact Below.refl _ _ | with_reducible refine Below.setCell ?_ (by first | omega | (simp;omega) | (simp;done)) _ | with_reducible refine Below.alloc ?_ (by first | omega | (simp;omega) | (simp;done)) _ | with_reducible refine below_drewN ?_ _ | with_reducible refine Below.drew ?_));exact HBEL.out.mono hwB⟩
      | false =>
       have hkf:=HK3.out
       rw [if_neg (by decide)] at hkf
       have HK4:=hid hkf
       clear hkf
       by_cases hK:kright kind = true
       ·
        have HK:=hid hK
        clear hK
        have hkf:=HK4.out
        rw [if_neg (by rw [HK.out];decide)] at hkf
        have HK5:=hid hkf
        clear hkf
        go_wp2_with fail
        refine (ref06_Right _ _).mono ?_
        rintro e w' ⟨rfl,rfl⟩
        rw [HK.out]
        cases packed with
        | false =>
         have hkf:=HK5.out
         rw [if_neg (by simp)] at hkf
         have HK6:=hid hkf
         clear hkf
         by_cases h17:kind = 17
         ·
          by_cases ho:of < 0 ∨ (n:Int) ≤ of
          ·
           have HO:Hid (K = 11):=by rw [HK6.out];exact if_pos (.inl ⟨h17,ho⟩)
           subst h17
           rcases ho with ho | ho
           ·
            go_wp2
            go_ret
            obtain rfl:K = 11:=HO.out
            exact ⟨rfl,by (repeat (first | with_reducible exact Below.refl _ _ | with_reducible refine Below.setCell ?_ (by first | omega | (simp;omega) | (simp;done)) _ | with_reducible refine Below.alloc ?_ (by first | omega | (simp;omega) | (simp;done)) _ | with_reducible refine below_drewN ?_ _ | with_reducible refine Below.drew ?_));exact HBEL.out.mono hwB⟩
           ·
            have ho2:0 ≤ of:=by omega
            go_wp2
            go_ret
            obtain rfl:K = 11:=HO.out
            exact ⟨rfl,by (repeat (first | with_reducible exact Below.refl _ _ | with_reducible refine Below.setCell ?_ (by first | omega | (simp;omega) | (simp;done)) _ | with_reducible refine Below.alloc ?_ (by first | omega | (simp;omega) | (simp;done)) _ | with_reducible refine below_drewN ?_ _ | with_reducible refine Below.drew ?_));exact HBEL.out.mono hwB⟩
          ·
           have HO:Hid (K = 0):=by rw [HK6.out];exact if_neg (by omega)
           have ho1:0 ≤ of:=by omega
           have ho2:of < (n:Int):=by omega
           clear ho
           subst h17
           go_wp2
           go_ret
           obtain rfl:K = 0:=HO.out
           exact ⟨rfl,by (repeat (first | with_reducible exact Below.refl _ _ | with_reducible refine Below.setCell ?_ (by first | omega | (simp;omega) | (simp;done)) _ | with_reducible refine Below.alloc ?_ (by first | omega | (simp;omega) | (simp;done)) _ | with_reducible refine below_drewN ?_ _ | with_reducible refine Below.drew ?_));exact HBEL.out.mono hwB⟩
         ·
          have h17':(kind == 17) = false:=by simpa using h17
          have h17b:(kind != 17) = true:=by simpa using h17
          by_cases ho:of = 0
          ·
           have HO:Hid (K = 0):=by rw [HK6.out];exact if_neg (by omega)
           have H17:=hid h17
           clear h17
           subst ho
           go_wp2
           go_ret
           obtain rfl:K = 0:=HO.out
           exact ⟨rfl,by (repeat (first | with_reducible exact Below.refl _ _ | with_reducible refine Below.setCell ?_ (by first | omega | (simp;omega) | (simp;done)) _ | with_reducible refine Below.alloc ?_ (by first | omega | (simp;omega) | (simp;done)) _ | with_reducible refine below_drewN ?_ _ | with_reducible refine Below.drew ?_));exact HBEL.out.mono hwB⟩
          ·
           have HO:Hid (K = 11):=by rw [HK6.out];exact if_pos (.inr ⟨h17,ho⟩)
           have ho':(of == 0) = false:=by simpa using ho
           have hob:(of != 0) = true:=by simpa using ho
           have H17:=hid h17
           have HO2:=hid ho
           clear h17 ho
           go_wp2
           go_ret
           obtain rfl:K = 11:=HO.out
           exact ⟨rfl,by (repeat (first | with_reducible exact Below.refl _ _ | with_reducible refine Below.setCell ?_ (by first | omega | (simp;omega) | (simp;done)) _ | with_reducible refine Below.alloc ?_ (by first | omega | (simp;omega) | (simp;done)) _ | with_reducible refine below_drewN ?_ _ | with_reducible refine Below.drew ?_));exact HBEL.out.mono hwB⟩
        | true =>
         cases rep with
         | false =>
          have HO:Hid (K = 10):=by rw [HK5.out];exact if_pos ⟨rfl,.inl rfl⟩
          go_wp2
          go_ret
          obtain rfl:K = 10:=HO.out
          exact ⟨rfl,by (repeat (first | with_reducible exact Below.refl _ _ | with_reducible refine Below.setCell ?_ (by first | omega | (simp;omega) | (simp;done)) _ | with_reducible refine Below.alloc ?_ (by first | omega | (simp;omega) | (simp;done)) _ | with_reducible refine below_drewN ?_ _ | with_reducible refine Below.drew ?_));exact HBEL.out.mono hwB⟩
         | true =>
          by_cases hKN:knumber kind = true
          ·
           have hkf:=HK5.out
           rw [if_neg (by simp [hKN])] at hkf
           have HK6:=hid hkf
           have HKN:=hid hKN
           clear hkf hKN
           go_wp2_with fail
           refine (ref06_Number _ _).mono ?_
           rintro e w' ⟨rfl,rfl⟩
           rw [HKN.out]
           by_cases h17:kind = 17
           ·
            exfalso
            have:=HKN.out
            subst h17
            revert this
            decide
           ·
            have h17':(kind == 17) = false:=by simpa using h17
            have h17b:(kind != 17) = true:=by simpa using h17
            by_cases ho:of = 0
            ·
             have HO:Hid (K = 0):=by rw [HK6.out];exact if_neg (by omega)
             have H17:=hid h17
             clear h17
             subst ho
             go_wp2
             go_ret
             obtain rfl:K = 0:=HO.out
             exact ⟨rfl,by (repeat (first | with_reducible exact Below.refl _ _ | with_reducible refine Below.setCell ?_ (by first | omega | (simp;omega) | (simp;done)) _ | with_reducible refine Below.alloc ?_ (by first | omega | (simp;omega) | (simp;done)) _ | with_reducible refine below_drewN ?_ _ | with_reducible refine Below.drew ?_));exact HBEL.out.mono hwB⟩
            ·
             have HO:Hid (K = 11):=by rw [HK6.out];exact if_pos (.inr ⟨h17,ho⟩)
             have ho':(of == 0) = false:=by simpa using ho
             have hob:(of != 0) = true:=by simpa using ho
             have H17:=hid h17
             have HO2:=hid ho
             clear h17 ho
             go_wp2
             go_ret
             obtain rfl:K = 11:=HO.out
             exact ⟨rfl,by (repeat (first | with_reducible exact Below.refl _ _ | with_reducible refine Below.setCell ?_ (by first | omega | (simp;omega) | (simp;done)) _ | with_reducible refine Below.alloc ?_ (by first | omega | (simp;omega) | (simp;done)) _ | with_reducible refine below_drewN ?_ _ | with_reducible refine Below.drew ?_));exact HBEL.out.mono hwB⟩
          ·
           have hKN2:knumber kind = false:=by simpa using hKN
           have HO:Hid (K = 10):=by rw [HK5.out];exact if_pos ⟨rfl,.inr hKN2⟩
           have HKN:=hid hKN2
           clear hKN hKN2
           go_wp2_with fail
           refine (ref06_Number _ _).mono ?_
           rintro e w' ⟨rfl,rfl⟩
           rw [HKN.out]
           go_wp2
           go_ret
           obtain rfl:K = 10:=HO.out
           exact ⟨rfl,by (repeat (first | with_reducible exact Below.refl _ _ | with_reducible refine Below.setCell ?_ (by first | omega | (simp;omega) | (simp;done)) _ | with_reducible refine Below.alloc ?_ (by first | omega | (simp;omega) | (simp;done)) _ | with_reducible refine below_drewN ?_ _ | with_reducible refine Below.drew ?_));exact HBEL.out.mono hwB⟩
       ·
        have hK2:kright kind = false:=by simpa using hK
        have HK:=hid hK2
        clear hK hK2
        go_wp2_with fail
        refine (ref06_Right _ _).mono ?_
        rintro e w' ⟨rfl,rfl⟩
        rw [HK.out]
        go_wp2
        go_ret
        obtain rfl:K = 9:=by rw [HK4.out,if_pos HK.out]
        exact ⟨rfl,by (repeat (first | with_reducible exact Below.refl _ _ | with_reducible refine Below.setCell ?_ (by first | omega | (simp;omega) | (simp;done)) _ | with_reducible refine Below.alloc ?_ (by first | omega | (simp;omega) | (simp;done)) _ | with_reducible refine below_drewN ?_ _ | with_reducible refine Below.drew ?_));exact HBEL.out.mono hwB⟩
     ·
      have HU:Hid (numOk number = false):=HNU2.out.2 (by omega)
      have d1:decide (number < 1) = false:=by simp;omega
      have d2:decide (536870911 < number) = true:=by simp;omega
      clear hx
      go_wp2
      go_ret
      obtain rfl:K = 7:=by rw [HK2.out,if_pos HU.out]
      exact ⟨rfl,by (repeat (first | with_reducible exact Below.refl _ _ | with_reducible refine Below.setCell ?_ (by first | omega | (simp;omega) | (simp;done)) _ | with_reducible refine Below.alloc ?_ (by first | omega | (simp;omega) | (simp;done)) _ | with_reducible refine below_drewN ?_ _ | with_reducible refine Below.drew ?_));exact HBEL.out.mono hwB⟩
   ·
    have hN2:nameOk name = false:=by simpa using hN
    have HNO:=hid hN2
    clear hN hN2
    rw [HNO.out]
    go_wp2
    go_ret
    obtain rfl:K = 5:=by rw [HKF.out,if_pos HNO.out]
    exact ⟨rfl,by (repeat (first | with_reducible exact Below.refl _ _ | with_reducible refine Below.setCell ?_ (by first | omega | (simp;omega) | (simp;done)) _ | with_reducible refine Below.alloc ?_ (by first | omega | (simp;omega) | (simp;done)) _ | with_reducible refine below_drewN ?_ _ | with_reducible refine Below.drew ?_));exact HBEL.out.mono hwB⟩
end Go.Proofs.YtphkmpnahnakaaaGreat
namespace Go.Proofs.YtphkmpnahnakaaaGreat
open Go.RowKit
theorem mesMet_step (s:List Mes) (j:Nat) (t:ByteArray) (hj:j < s.length):mesMet (s.take (j + 1)) t = (mesMet (s.take j) t || decide ((s.getD j .zero).name = t)):=by
 have e:s.getD j .zero = s[j]:=by simp [List.getD,hj]
 rw [List.take_succ_eq_append_getElem hj,e]
 simp only [mesMet,List.any_append,List.any_cons,List.any_nil,Bool.or_false]
set_option maxRecDepth 100000 in
set_option maxHeartbeats 20000000 in
theorem ref07_Check {w:World} {v:Value} {s:List Mes} (h:SchemaAt w v s) :
  Calls Tryz.prog 52 #[v] w fun e w' => e = .returned (.tuple #[.int .i64 (scheck s).1,.int .i64 (scheck s).2.1,.int .i64 (scheck s).2.2]) ∧ Below w.heap.size w w':=by
 obtain ⟨hlen,a,cap,rfl,hat⟩:=h.open
 have HAT:=hid hat
 clear hat
 obtain ⟨n,HN⟩:∃ n,Hid (n = s.length):=⟨_,rfl⟩
 rw [← HN.out] at hlen h ⊢
 obtain ⟨x,HX⟩:∃ x,Hid (x = scheck s):=⟨_,rfl⟩
 rw [← HX.out]
 by_cases hbig:n = 0 ∨ 100 < n
 ·
  obtain rfl:x = (-1,-1,1):=by
   rw [HX.out,scheck,if_pos (by rw [← HN.out];omega)]
  rcases hbig with hb | hb
  ·
   subst hb
   go_enter Tryz.func52,Tryz.ntmps52
   go_wp2
   go_ret3
   exact ⟨rfl,by (repeat (first | with_reducible exact Below.refl _ _ | with_reducible refine Below.setCell ?_ (by first | omega | (simp;omega) | (simp;done)) _ | with_reducible refine Below.alloc ?_ (by first | omega | (simp;omega) | (simp;done)) _ | with_reducible refine below_drewN ?_ _ | with_reducible refine Below.drew ?_))⟩
  ·
   have h0:((n:Int) == 0) = false:=by simp;omega
   go_enter Tryz.func52,Tryz.ntmps52
   go_wp2
   go_ret3
   exact ⟨rfl,by (repeat (first | with_reducible exact Below.refl _ _ | with_reducible refine Below.setCell ?_ (by first | omega | (simp;omega) | (simp;done)) _ | with_reducible refine Below.alloc ?_ (by first | omega | (simp;omega) | (simp;done)) _ | with_reducible refine below_drewN ?_ _ | with_reducible refine Below.drew ?_))⟩
 ·
  have hn1:1 ≤ n:=by omega
  have hn2:n ≤ 100:=by omega
  have h0:((n:Int) == 0) = false:=by simp;omega
  clear hbig
  have HGO:Hid (scheckGo n [] s 0 = x):=by rw [Hid,HX.out,scheck,if_neg (by rw [← HN.out];omega),HN.out]
  go_enter Tryz.func52,Tryz.ntmps52
  go_wp2
  go_loopw [5] (fun v5 wr => ∃ i:Nat,i ≤ n ∧ v5 = .int .i64 i ∧ Hid (scheckGo n (s.take i) (s.drop i) i = x) ∧ Hid (Below w.heap.size w wr)) (fun v5 _ => n - (intOf v5).toNat)
  case atStart => exact ⟨0,by omega,rfl,HGO.out,Below.refl _ _⟩
  case round =>
   obtain ⟨i,hi,rfl,HK,HBEL⟩:=hrel
   by_cases hlt:i < n
   ·
    have hgo:=scheckGo_at n s i (by rw [← HN.out];exact hlt)
    rw [HK.out] at hgo
    have HGA:=hid hgo
    clear hgo
    have hat:=HAT.out
    obtain ⟨b,o,fv,ha,hnsz,hc0,hc1,hfs⟩:=hat i (by rw [← HN.out];exact hlt)
    have hix:=index_run Tryz.underlying23 size_mes ha i hlt (cap:=cap)
    obtain ⟨m,HM⟩:∃ m,Hid (m = s.getD i .zero):=⟨_,rfl⟩
    rw [← HM.out] at hnsz hc0 hfs HGA
    obtain ⟨mn,mf⟩:=m
    simp only at hnsz hc0 hfs HGA
    obtain ⟨hflen,fa,fcap,rfl,-⟩:=hfs.open
    obtain ⟨fl,HFL⟩:∃ fl,Hid (fl = mf.length):=⟨_,rfl⟩
    rw [← HFL.out] at hflen hc1
    have HA:=hid ha
    have HC:=hid (And.intro hc0 hc1)
    clear ha hfs hat hc0 hc1
    go_wp2
    go_loopw [6,7] (fun v6 v7 wr => ∃ j:Nat,j ≤ i ∧ v7 = .int .i64 j ∧ v6 = .bool (mesMet (s.take j) mn) ∧ Hid (Below w.heap.size w wr)) (fun _ v7 _ => i - (intOf v7).toNat)
    case atStart => exact ⟨0,by omega,rfl,rfl,HBEL.out⟩
    case round =>
     obtain ⟨j,hj,rfl,rfl,HB2⟩:=hrel
     have hkw:∀ p u,w.cell? p = some u → wr.cell? p = some u:=fun p u hu => (Below.cell (p:=p) HB2.out (World.block_lt_of_cell? w p hu)).trans hu
     have c0:=hkw _ _ HC.out.1
     have c1:=hkw _ _ HC.out.2
     have HKW:=hid hkw
     clear hkw
     obtain ⟨bn,HBN⟩:∃ bn,Hid (bn = mesMet (s.take j) mn):=⟨_,rfl⟩
     rw [← HBN.out]
     by_cases hjl:j < i
     ·
      have hat:=HAT.out
      obtain ⟨b2,o2,fv2,ha2,-,q0,-,-⟩:=hat j (by rw [← HN.out];omega)
      have hixj:=index_run Tryz.underlying23 size_mes ha2 j (len:=n) (by omega) (cap:=cap)
      have hkw:=HKW.out
      have r0:=hkw _ _ q0
      have HA2:=hid ha2
      clear hkw ha2 hat q0
      obtain ⟨g,HG⟩:∃ g,Hid (g = s.getD j .zero):=⟨_,rfl⟩
      rw [← HG.out] at r0
      have hb1:=str_beq g.name mn
      have HN1:=hid (mesMet_step s j mn (by rw [← HN.out];omega))
      rw [← HBN.out,← HG.out] at HN1
      cases bn
      all_goals
       go_wp2
       go_quiet (fail)
       go_wp2
       go_roundw
       case rel => exact ⟨j + 1,by omega,by go_num,by rw [HN1.out];simp,below_drewN HB2.out _⟩
       case measure => simp [intOf];omega
     ·
      obtain rfl:j = i:=by omega
      go_wp2_with fail
      refine (ref07_Name mn (by omega) _).mono ?_
      rintro e w' ⟨rfl,rfl⟩
      by_cases hnm:nameOk mn = true
      ·
       have HNM:=hid hnm
       clear hnm
       have hgb:=HGA.out
       rw [if_neg (by rw [HNM.out];decide),← HBN.out] at hgb
       have HGC:=hid hgb
       clear hgb
       rw [HNM.out]
       cases bn with
       | true =>
        have HX1:Hid (x = ((j:Int),-1,3)):=by rw [Hid,HGC.out];rfl
        go_wp2
        go_ret3
        exact ⟨by rw [HX1.out];rfl,by (repeat (first | with_reducible exact Below.refl _ _ | with_reducible refine Below.setCell ?_ (by first | omega | (simp;omega) | (simp;done)) _ | with_reducible refine Below.alloc ?_ (by first | omega | (simp;omega) | (simp;done)) _ | with_reducible refine below_drewN ?_ _ | with_reducible refine Below.drew ?_));exact HB2.out⟩
       | false =>
        have hgc:=HGC.out
        rw [if_neg (by decide)] at hgc
        have HGD:=hid hgc
        clear hgc
        by_cases h200:200 < fl
        ·
         have HX1:Hid (x = ((j:Int),-1,4)):=by rw [Hid,HGD.out,if_pos (by rw [← HFL.out];exact h200)]
         go_wp2
         go_ret3
         exact ⟨by rw [HX1.out];rfl,by (repeat (first | with_reducible exact Below.refl _ _ | with_reducible refine Below.setCell ?_ (by first | omega | (simp;omega) | (simp;done)) _ | with_reducible refine Below.alloc ?_ (by first | omega | (simp;omega) | (simp;done)) _ | with_reducible refine below_drewN ?_ _ | with_reducible refine Below.drew ?_));exact HB2.out⟩
        ·
         have hgd2:=HGD.out
         rw [if_neg (by rw [← HFL.out];exact h200)] at hgd2
         have HGE:=hid hgd2
         clear hgd2
         go_wp2
         go_loopw [8] (fun v8 wr => ∃ q:Nat,q ≤ fl ∧ v8 = .int .i64 q ∧ Hid (fieldsFault n (mf.take q) (mf.drop q) q = fieldsFault n [] mf 0) ∧ Hid (Below w.heap.size w wr)) (fun v8 _ => fl - (intOf v8).toNat)
         case atStart => exact ⟨0,by omega,rfl,hid rfl,HB2.out⟩
         case round =>
          obtain ⟨q,hq,rfl,HQ,HB3⟩:=hrel
          have hkw2:∀ p u,w.cell? p = some u → wr.cell? p = some u:=fun p u hu => (Below.cell (p:=p) HB3.out (World.block_lt_of_cell? w p hu)).trans hu
          have c0':=hkw2 _ _ HC.out.1
          have c1':=hkw2 _ _ HC.out.2
          have HKW2:=hid hkw2
          clear hkw2
          by_cases hql:q < fl
          ·
           have hsr:SchemaAt wr (.slice a n cap) s:=h.keep HKW2.out
           have HSR:=hid hsr
           clear hsr
           obtain ⟨f,HF⟩:∃ f,Hid (f = mf.getD q .zero):=⟨_,rfl⟩
           have hfst:=fieldsFault_at n mf q (by rw [← HFL.out];exact hql)
           rw [HQ.out,← HF.out] at hfst
           have HST:=hid hfst
           clear hfst
           go_wp2_with fail
           refine (ref07_Fault HSR.out j q (by rw [← HN.out];exact hlt) mf (by rw [← HM.out]) (by rw [← HFL.out];exact hql) f HF.out).mono ?_
           rintro e w5 ⟨rfl,hb5⟩
           rw [← HN.out]
           obtain ⟨K,HKK⟩:∃ K,Hid (K = fieldFault n (nameMet (mf.take q) f.name) (numMet (mf.take q) f.number) f):=⟨_,rfl⟩
           rw [← HKK.out] at HST ⊢
           have HB5:Hid (Below w.heap.size w w5):=below_step HB3.out hb5 HB3.out.size
           clear hb5
           by_cases hK:K = 0
           ·
            subst hK
            go_wp2
            go_roundw
            case rel =>
             refine ⟨q + 1,by omega,by go_num,?_,HB5.out⟩
             have:=HST.out
             first | exact this.symm | (rw [if_pos trivial] at this;exact this.symm) | (rw [if_pos rfl] at this;exact this.symm)
            case measure => simp [intOf];omega
           ·
            have hKp:0 < K:=by omega
            have HX1:Hid (x = ((j:Int),(q:Int),K)):=by
             have:=HST.out
             rw [if_neg hK] at this
             rw [Hid,HGE.out,this]
            clear hK
            go_wp2
            go_ret3
            exact ⟨by rw [HX1.out];rfl,by (repeat (first | with_reducible exact Below.refl _ _ | with_reducible refine Below.setCell ?_ (by first | omega | (simp;omega) | (simp;done)) _ | with_reducible refine Below.alloc ?_ (by first | omega | (simp;omega) | (simp;done)) _ | with_reducible refine below_drewN ?_ _ | with_reducible refine Below.drew ?_));exact HB5.out⟩
          ·
           obtain rfl:q = fl:=by omega
           go_wp2
           go_roundw
           case rel =>
            refine ⟨j + 1,by omega,by go_num,?_,HB3.out⟩
            have h1:=HQ.out
            rw [HFL.out,List.drop_length] at h1
            have h2:=HGE.out
            rw [← h1] at h2
            simp only [fieldsFault] at h2
            exact h2.symm
           case measure => simp [intOf];omega
      ·
       have hnm2:nameOk mn = false:=by simpa using hnm
       have HX1:Hid (x = ((j:Int),-1,2)):=by rw [Hid,HGA.out,if_pos hnm2]
       have HNM:=hid hnm2
       clear hnm hnm2
       rw [HNM.out]
       go_wp2
       go_ret3
       exact ⟨by rw [HX1.out];rfl,by (repeat (first | with_reducible exact Below.refl _ _ | with_reducible refine Below.setCell ?_ (by first | omega | (simp;omega) | (simp;done)) _ | with_reducible refine Below.alloc ?_ (by first | omega | (simp;omega) | (simp;done)) _ | with_reducible refine below_drewN ?_ _ | with_reducible refine Below.drew ?_));exact HB2.out⟩
   ·
    have HX1:Hid (x = (0,0,0)):=by
     have h1:=HK.out
     rw [List.drop_of_length_le (by rw [← HN.out];omega)] at h1
     exact h1.symm
    go_wp2
    go_ret3
    exact ⟨by rw [HX1.out];rfl,by (repeat (first | with_reducible exact Below.refl _ _ | with_reducible refine Below.setCell ?_ (by first | omega | (simp;omega) | (simp;done)) _ | with_reducible refine Below.alloc ?_ (by first | omega | (simp;omega) | (simp;done)) _ | with_reducible refine below_drewN ?_ _ | with_reducible refine Below.drew ?_));exact HBEL.out⟩
set_option maxRecDepth 100000 in
theorem ref07_Right {w:World} {v:Value} {s:List Mes} (h:SchemaAt w v s) :
  Calls Tryz.prog 31 #[v] w fun e w' => e = .returned (.bool (sright s)) ∧ Below w.heap.size w w':=by
 obtain ⟨x,HX⟩:∃ x,Hid (x = scheck s):=⟨_,rfl⟩
 have H:Hid (sright s = decide (x.2.2 = 0)):=by rw [Hid,HX.out];rfl
 obtain ⟨x1,x2,x3⟩:=x
 go_enter Tryz.func31,Tryz.ntmps31
 go_wp2_with (go_at_call 52;refine (ref07_Check h).mono ?_;rintro e w1 ⟨rfl,hb⟩;rw [← HX.out])
 go_ret
 refine ⟨ret1 ?_,by (repeat (first | with_reducible exact Below.refl _ _ | with_reducible refine Below.setCell ?_ (by first | omega | (simp;omega) | (simp;done)) _ | with_reducible refine Below.alloc ?_ (by first | omega | (simp;omega) | (simp;done)) _ | with_reducible refine below_drewN ?_ _ | with_reducible refine Below.drew ?_));exact hb⟩
 rw [H.out]
 show Value.bool ((x3:Int) == 0) = _
 congr 1
 rw [Bool.eq_iff_iff]
 simp
end Go.Proofs.YtphkmpnahnakaaaGreat
