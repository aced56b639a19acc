/- Names and numbers of schemas: what schema.letter, named, usable and the document's Name return of any text, number: nameOk, numOk. The text is of at most 2^47 bytes. How schemas lie in memory: fields, messages; small laws to give the walk a fresh name for its world. No condition. -/
import Derived.Test.YtbcpeckmnmhfhaaGreatZ04
import Derived.RegionTactic
import Derived.BigRegion
import Derived.Deep.DeepCutAuto
namespace Go.Proofs.YtbcpeckmnmhfhaaGreat
open Go.RowKit
def letterOk (c : Nat) : Bool := decide (65 ≤ c ∧ c ≤ 90 ∨ 97 ≤ c ∧ c ≤ 122 ∨ c = 95)
def charOk (i c : Nat) : Bool := letterOk c || decide (0 < i ∧ 48 ≤ c ∧ c ≤ 57)
def byteAt (s : ByteArray) (i : Nat) : Nat := (s.data.toList.getD i 0).toNat
def nameOk (s : ByteArray) : Bool := (List.range s.size).all (fun i => charOk i (byteAt s i)) && decide (1 ≤ s.size ∧ s.size ≤ 60)
def numOk (n : Int) : Bool := decide (1 ≤ n ∧ n ≤ 536870911 ∧ (n < 19000 ∨ 19999 < n))
theorem byteAt_lt (s : ByteArray) (i : Nat) : byteAt s i < 256 := UInt8.toNat_lt _
theorem byteAt_get (s : ByteArray) (k : Nat) (hk : k < s.size) : (s[k]'hk).toNat = byteAt s k := by
  have : k < s.data.toList.length := by simpa using hk
  have hk' : k < s.data.size := by simpa using hk
  have e : s.data.toList.getD k 0 = s.data[k]'hk' := by simp [List.getD, Array.getElem?_eq_getElem hk']
  rw [byteAt, e]
  rfl
theorem u8_or32 : ∀ c : Fin 256, bits .or .u8 (c.val : Int) 32 = ((c.val ||| 32 : Nat) : Int) ∧ letterOk c.val = (decide (97 ≤ c.val ||| 32) && decide (c.val ||| 32 ≤ 122) || decide (c.val = 95)) ∧ (c.val ||| 32) < 256 := by decide +kernel
set_option maxRecDepth 100000 in
theorem schema_letter (c : Nat) (hc : c < 256) (w : World) :
    Calls Tryz.prog 121 #[.int .u8 c] w fun e w' => e = .returned (.bool (letterOk c)) ∧ w = w' := by
  obtain ⟨y, hy, HL, hy2⟩ : ∃ y : Nat, bits .or .u8 (c : Int) 32 = (y : Int) ∧ Hid (letterOk c = (decide (97 ≤ y) && decide (y ≤ 122) || decide (c = 95))) ∧ y < 256 := ⟨_, u8_or32 ⟨c, hc⟩⟩
  by_cases h1 : 97 ≤ y
  · by_cases h2 : y ≤ 122
    · go_enter Tryz.func121, Tryz.ntmps121
      go_wp2
      go_ret
      exact ⟨ret1 (by rw [HL.out]; simp [h1, h2]), rfl⟩
    · by_cases h3 : c = 95
      · have h3' : ((c : Int) == 95) = true := by simp; omega
        have H3 := hid h3
        clear h3
        go_enter Tryz.func121, Tryz.ntmps121
        go_wp2
        go_ret
        exact ⟨ret1 (by rw [HL.out]; simp [H3.out]), rfl⟩
      · have h3' : ((c : Int) == 95) = false := by simp; omega
        have H3 := hid h3
        clear h3
        go_enter Tryz.func121, Tryz.ntmps121
        go_wp2
        go_ret
        exact ⟨ret1 (congrArg Value.bool (by rw [HL.out, decide_eq_false H3.out]; simp [h1, h2] <;> omega)), rfl⟩
  · by_cases h3 : c = 95
    · have h3' : ((c : Int) == 95) = true := by simp; omega
      have H3 := hid h3
      clear h3
      go_enter Tryz.func121, Tryz.ntmps121
      go_wp2
      go_ret
      exact ⟨ret1 (by rw [HL.out]; simp [H3.out]), rfl⟩
    · have h3' : ((c : Int) == 95) = false := by simp; omega
      have H3 := hid h3
      clear h3
      go_enter Tryz.func121, Tryz.ntmps121
      go_wp2
      go_ret
      exact ⟨ret1 (congrArg Value.bool (by rw [HL.out, decide_eq_false H3.out]; simp [h1] <;> omega)), rfl⟩
theorem nameOk_bad (s : ByteArray) (k : Nat) (hk : k < s.size) (h : charOk k (byteAt s k) = false) : nameOk s = false := by
  unfold nameOk
  rw [Bool.and_eq_false_iff]
  refine .inl ?_
  rw [List.all_eq_false]
  exact ⟨k, List.mem_range.2 hk, by simp [h]⟩
theorem nameOk_good (s : ByteArray) (h : ∀ i, i < s.size → charOk i (byteAt s i) = true) : nameOk s = decide (1 ≤ s.size ∧ s.size ≤ 60) := by
  unfold nameOk
  have : (List.range s.size).all (fun i => charOk i (byteAt s i)) = true := by
    rw [List.all_eq_true]
    intro x hx
    exact h x (List.mem_range.1 hx)
  rw [this, Bool.true_and]
set_option maxRecDepth 100000 in
theorem schema_named (s : ByteArray) (hs : s.size ≤ 9223372036854775807) (w : World) :
    Calls Tryz.prog 115 #[.string s] w fun e w' => e = .returned (.bool (nameOk s)) ∧ w = w' := by
  go_enter Tryz.func115, Tryz.ntmps115
  go_wp2
  go_loop [6] (fun v6 => ∃ k : Nat, k ≤ s.size ∧ v6 = .int .i64 k ∧ Hid (∀ i, i < k → charOk i (byteAt s i) = true)) (fun v6 => s.size - (intOf v6).toNat)
  case atStart => exact ⟨0, by omega, rfl, fun i hi => absurd hi (by omega)⟩
  case round =>
    obtain ⟨k, hk, rfl, HK⟩ := hrel
    by_cases hlt : k < s.size
    · obtain ⟨c, HC⟩ : ∃ c, Hid (c = byteAt s k) := ⟨_, rfl⟩
      have hcb : c < 256 := by rw [HC.out]; exact byteAt_lt _ _
      have hsk := byteAt_get s k hlt
      rw [← HC.out] at hsk
      cases hl : letterOk c with
      | true =>
        have HLT := hid hl
        clear hl
        go_wp2_with (go_at_call 121; refine (schema_letter _ hcb _).mono ?_; rintro e w' ⟨rfl, rfl⟩; rw [HLT.out])
        go_round
        case rel =>
          refine ⟨k + 1, by omega, by go_num, fun i hi => ?_⟩
          by_cases e : i = k
          · subst e; rw [← HC.out]; simp [charOk, HLT.out]
          · exact HK.out i (by omega)
        case measure => simp [intOf]; omega
      | false =>
        have HLT := hid hl
        clear hl
        by_cases h0 : k = 0
        · have hv : Hid (nameOk s = false) := nameOk_bad s k hlt (by rw [← HC.out]; simp [charOk, HLT.out, h0])
          have h0' : ((k : Int) == 0) = true := by simp; omega
          have H0 := hid h0
          clear h0
          go_wp2_with (go_at_call 121; refine (schema_letter _ hcb _).mono ?_; rintro e w' ⟨rfl, rfl⟩; rw [HLT.out])
          go_ret
          rw [hv.out]
          exact ⟨rfl, rfl⟩
        · have h0' : ((k : Int) == 0) = false := by simp; omega
          have H0 := hid h0
          clear h0
          by_cases h48 : c < 48
          · have hv : Hid (nameOk s = false) := nameOk_bad s k hlt (by rw [← HC.out]; simp [charOk, HLT.out]; omega)
            go_wp2_with (go_at_call 121; refine (schema_letter _ hcb _).mono ?_; rintro e w' ⟨rfl, rfl⟩; rw [HLT.out])
            go_ret
            rw [hv.out]
            exact ⟨rfl, rfl⟩
          · by_cases h57 : 57 < c
            · have hv : Hid (nameOk s = false) := nameOk_bad s k hlt (by rw [← HC.out]; simp [charOk, HLT.out]; omega)
              go_wp2_with (go_at_call 121; refine (schema_letter _ hcb _).mono ?_; rintro e w' ⟨rfl, rfl⟩; rw [HLT.out])
              go_ret
              rw [hv.out]
              exact ⟨rfl, rfl⟩
            · go_wp2_with (go_at_call 121; refine (schema_letter _ hcb _).mono ?_; rintro e w' ⟨rfl, rfl⟩; rw [HLT.out])
              go_round
              case rel =>
                refine ⟨k + 1, by omega, by go_num, fun i hi => ?_⟩
                by_cases e : i = k
                · subst e; rw [← HC.out]; have := H0.out; simp [charOk]; right; omega
                · exact HK.out i (by omega)
              case measure => simp [intOf]; omega
    · have hv : Hid (nameOk s = decide (1 ≤ s.size ∧ s.size ≤ 60)) := nameOk_good s fun i hi => HK.out i (by omega)
      by_cases h0 : s.size = 0
      · have hem2 : s.toList = [] := by
          rw [ByteArray.toList_eq]
          have : s.data.toList = [] := List.eq_nil_of_length_eq_zero (by simpa using h0)
          exact this
        have H0 := hid h0
        clear h0
        go_wp2
        go_ret
        rw [hv.out]
        exact ⟨ret1 (congrArg Value.bool (decide_eq_false (by have := H0.out; omega)).symm), rfl⟩
      · have hem : ¬ s.toList = [] := by
          rw [ByteArray.toList_eq]
          intro e
          refine h0 ?_
          show s.data.size = 0
          rw [← Array.length_toList, e]
          rfl
        have hem2 : s.toList.isEmpty = false := by simpa using hem
        have H0 := hid h0
        clear h0
        go_wp2
        go_ret
        rw [hv.out]
        refine ⟨ret1 (congrArg Value.bool ?_), rfl⟩
        have := H0.out
        rw [Bool.eq_iff_iff]
        simp
        omega
set_option maxRecDepth 100000 in
theorem schema_usable (n : Int) (w : World) :
    Calls Tryz.prog 122 #[.int .i64 n] w fun e w' => e = .returned (.bool (numOk n)) ∧ w = w' := by
  have H : Hid (numOk n = (decide (1 ≤ n) && decide (n ≤ 536870911) && (decide (n < 19000) || decide (19999 < n)))) := by simp [Hid, numOk, Bool.and_assoc]
  obtain ⟨b1, hb1⟩ : ∃ b, decide (1 ≤ n) = b := ⟨_, rfl⟩
  obtain ⟨b2, hb2⟩ : ∃ b, decide (n ≤ 536870911) = b := ⟨_, rfl⟩
  obtain ⟨b3, hb3⟩ : ∃ b, decide (n < 19000) = b := ⟨_, rfl⟩
  obtain ⟨b4, hb4⟩ : ∃ b, decide (19999 < n) = b := ⟨_, rfl⟩
  have H2 : Hid (numOk n = (b1 && b2 && (b3 || b4))) := by rw [Hid, H.out, hb1, hb2, hb3, hb4]
  cases b1 <;> cases b2 <;> cases b3 <;> cases b4
  all_goals
    go_enter Tryz.func122, Tryz.ntmps122
    go_wp2
    go_ret
    exact ⟨ret1 (by rw [H2.out]; rfl), rfl⟩
set_option maxRecDepth 100000 in
set_option maxHeartbeats 1000000 in
theorem ref07_Name (s : ByteArray) (hs : s.size ≤ 9223372036854775807) (w : World) :
    Calls Tryz.prog 81 #[.string s] w fun e w' => e = .returned (.bool (nameOk s)) ∧ w = w' := by
  go_enter Tryz.func81, Tryz.ntmps81
  go_wp2
  go_loop [3] (fun v3 => ∃ k : Nat, k ≤ s.size ∧ v3 = .int .i64 k ∧ Hid (∀ i, i < k → charOk i (byteAt s i) = true)) (fun v3 => s.size - (intOf v3).toNat)
  case atStart => exact ⟨0, by omega, rfl, fun i hi => absurd hi (by omega)⟩
  case round =>
    obtain ⟨k, hk, rfl, HK⟩ := hrel
    by_cases hlt : k < s.size
    · obtain ⟨c, HC⟩ : ∃ c, Hid (c = byteAt s k) := ⟨_, rfl⟩
      have hcb : c < 256 := by rw [HC.out]; exact byteAt_lt _ _
      have hsk := byteAt_get s k hlt
      rw [← HC.out] at hsk
      have hbad : Hid (charOk k c = false → nameOk s = false) := fun h => nameOk_bad s k hlt (by rw [← HC.out]; exact h)
      have hgood : Hid (charOk k c = true → ∀ i, i < k + 1 → charOk i (byteAt s i) = true) := fun h i hi => by
        by_cases e : i = k
        · subst e; rw [← HC.out]; exact h
        · exact HK.out i (by omega)
      rcases (show c ≤ 47 ∨ 48 ≤ c ∧ c ≤ 57 ∨ 58 ≤ c ∧ c ≤ 64 ∨ 65 ≤ c ∧ c ≤ 90 ∨ 91 ≤ c ∧ c ≤ 94 ∨ c = 95 ∨ c = 96 ∨ 97 ≤ c ∧ c ≤ 122 ∨ 123 ≤ c by omega) with hr | hr | hr | hr | hr | hr | hr | hr | hr
      · have d0 : decide ((65 : Int) ≤ (c : Int)) = false := by simp; omega
        have d1 : decide ((c : Int) ≤ 90) = true := by simp; omega
        have d2 : decide ((97 : Int) ≤ (c : Int)) = false := by simp; omega
        have d3 : decide ((c : Int) ≤ 122) = true := by simp; omega
        have d4 : decide ((48 : Int) ≤ (c : Int)) = false := by simp; omega
        have d5 : decide ((c : Int) ≤ 57) = true := by simp; omega
        have d6 : ((c : Int) == 95) = false := by simp; omega
        by_cases h0 : 0 < k
        · have HV : Hid (nameOk s = false) := hbad.out (by unfold charOk letterOk; simp; omega)
          clear hr
          go_wp2
          go_ret
          rw [HV.out]
          exact ⟨rfl, rfl⟩
        · have HV : Hid (nameOk s = false) := hbad.out (by unfold charOk letterOk; simp; omega)
          clear hr
          go_wp2
          go_ret
          rw [HV.out]
          exact ⟨rfl, rfl⟩
      · have d0 : decide ((65 : Int) ≤ (c : Int)) = false := by simp; omega
        have d1 : decide ((c : Int) ≤ 90) = true := by simp; omega
        have d2 : decide ((97 : Int) ≤ (c : Int)) = false := by simp; omega
        have d3 : decide ((c : Int) ≤ 122) = true := by simp; omega
        have d4 : decide ((48 : Int) ≤ (c : Int)) = true := by simp; omega
        have d5 : decide ((c : Int) ≤ 57) = true := by simp; omega
        have d6 : ((c : Int) == 95) = false := by simp; omega
        by_cases h0 : 0 < k
        · have HG : Hid (∀ i, i < k + 1 → charOk i (byteAt s i) = true) := hgood.out (by unfold charOk letterOk; simp; omega)
          clear hr
          go_wp2
          go_round
          case rel => exact ⟨k + 1, by omega, by go_num, HG.out⟩
          case measure => simp [intOf]; omega
        · have HV : Hid (nameOk s = false) := hbad.out (by unfold charOk letterOk; simp; omega)
          clear hr
          go_wp2
          go_ret
          rw [HV.out]
          exact ⟨rfl, rfl⟩
      · have d0 : decide ((65 : Int) ≤ (c : Int)) = false := by simp; omega
        have d1 : decide ((c : Int) ≤ 90) = true := by simp; omega
        have d2 : decide ((97 : Int) ≤ (c : Int)) = false := by simp; omega
        have d3 : decide ((c : Int) ≤ 122) = true := by simp; omega
        have d4 : decide ((48 : Int) ≤ (c : Int)) = true := by simp; omega
        have d5 : decide ((c : Int) ≤ 57) = false := by simp; omega
        have d6 : ((c : Int) == 95) = false := by simp; omega
        by_cases h0 : 0 < k
        · have HV : Hid (nameOk s = false) := hbad.out (by unfold charOk letterOk; simp; omega)
          clear hr
          go_wp2
          go_ret
          rw [HV.out]
          exact ⟨rfl, rfl⟩
        · have HV : Hid (nameOk s = false) := hbad.out (by unfold charOk letterOk; simp; omega)
          clear hr
          go_wp2
          go_ret
          rw [HV.out]
          exact ⟨rfl, rfl⟩
      · have d0 : decide ((65 : Int) ≤ (c : Int)) = true := by simp; omega
        have d1 : decide ((c : Int) ≤ 90) = true := by simp; omega
        have d2 : decide ((97 : Int) ≤ (c : Int)) = false := by simp; omega
        have d3 : decide ((c : Int) ≤ 122) = true := by simp; omega
        have d4 : decide ((48 : Int) ≤ (c : Int)) = true := by simp; omega
        have d5 : decide ((c : Int) ≤ 57) = false := by simp; omega
        have d6 : ((c : Int) == 95) = false := by simp; omega
        have HG : Hid (∀ i, i < k + 1 → charOk i (byteAt s i) = true) := hgood.out (by unfold charOk letterOk; simp; omega)
        clear hr
        go_wp2
        go_round
        case rel => exact ⟨k + 1, by omega, by go_num, HG.out⟩
        case measure => simp [intOf]; omega
      · have d0 : decide ((65 : Int) ≤ (c : Int)) = true := by simp; omega
        have d1 : decide ((c : Int) ≤ 90) = false := by simp; omega
        have d2 : decide ((97 : Int) ≤ (c : Int)) = false := by simp; omega
        have d3 : decide ((c : Int) ≤ 122) = true := by simp; omega
        have d4 : decide ((48 : Int) ≤ (c : Int)) = true := by simp; omega
        have d5 : decide ((c : Int) ≤ 57) = false := by simp; omega
        have d6 : ((c : Int) == 95) = false := by simp; omega
        by_cases h0 : 0 < k
        · have HV : Hid (nameOk s = false) := hbad.out (by unfold charOk letterOk; simp; omega)
          clear hr
          go_wp2
          go_ret
          rw [HV.out]
          exact ⟨rfl, rfl⟩
        · have HV : Hid (nameOk s = false) := hbad.out (by unfold charOk letterOk; simp; omega)
          clear hr
          go_wp2
          go_ret
          rw [HV.out]
          exact ⟨rfl, rfl⟩
      · have d0 : decide ((65 : Int) ≤ (c : Int)) = true := by simp; omega
        have d1 : decide ((c : Int) ≤ 90) = false := by simp; omega
        have d2 : decide ((97 : Int) ≤ (c : Int)) = false := by simp; omega
        have d3 : decide ((c : Int) ≤ 122) = true := by simp; omega
        have d4 : decide ((48 : Int) ≤ (c : Int)) = true := by simp; omega
        have d5 : decide ((c : Int) ≤ 57) = false := by simp; omega
        have d6 : ((c : Int) == 95) = true := by simp; omega
        have HG : Hid (∀ i, i < k + 1 → charOk i (byteAt s i) = true) := hgood.out (by unfold charOk letterOk; simp; omega)
        clear hr
        go_wp2
        go_round
        case rel => exact ⟨k + 1, by omega, by go_num, HG.out⟩
        case measure => simp [intOf]; omega
      · have d0 : decide ((65 : Int) ≤ (c : Int)) = true := by simp; omega
        have d1 : decide ((c : Int) ≤ 90) = false := by simp; omega
        have d2 : decide ((97 : Int) ≤ (c : Int)) = false := by simp; omega
        have d3 : decide ((c : Int) ≤ 122) = true := by simp; omega
        have d4 : decide ((48 : Int) ≤ (c : Int)) = true := by simp; omega
        have d5 : decide ((c : Int) ≤ 57) = false := by simp; omega
        have d6 : ((c : Int) == 95) = false := by simp; omega
        by_cases h0 : 0 < k
        · have HV : Hid (nameOk s = false) := hbad.out (by unfold charOk letterOk; simp; omega)
          clear hr
          go_wp2
          go_ret
          rw [HV.out]
          exact ⟨rfl, rfl⟩
        · have HV : Hid (nameOk s = false) := hbad.out (by unfold charOk letterOk; simp; omega)
          clear hr
          go_wp2
          go_ret
          rw [HV.out]
          exact ⟨rfl, rfl⟩
      · have d0 : decide ((65 : Int) ≤ (c : Int)) = true := by simp; omega
        have d1 : decide ((c : Int) ≤ 90) = false := by simp; omega
        have d2 : decide ((97 : Int) ≤ (c : Int)) = true := by simp; omega
        have d3 : decide ((c : Int) ≤ 122) = true := by simp; omega
        have d4 : decide ((48 : Int) ≤ (c : Int)) = true := by simp; omega
        have d5 : decide ((c : Int) ≤ 57) = false := by simp; omega
        have d6 : ((c : Int) == 95) = false := by simp; omega
        have HG : Hid (∀ i, i < k + 1 → charOk i (byteAt s i) = true) := hgood.out (by unfold charOk letterOk; simp; omega)
        clear hr
        go_wp2
        go_round
        case rel => exact ⟨k + 1, by omega, by go_num, HG.out⟩
        case measure => simp [intOf]; omega
      · have d0 : decide ((65 : Int) ≤ (c : Int)) = true := by simp; omega
        have d1 : decide ((c : Int) ≤ 90) = false := by simp; omega
        have d2 : decide ((97 : Int) ≤ (c : Int)) = true := by simp; omega
        have d3 : decide ((c : Int) ≤ 122) = false := by simp; omega
        have d4 : decide ((48 : Int) ≤ (c : Int)) = true := by simp; omega
        have d5 : decide ((c : Int) ≤ 57) = false := by simp; omega
        have d6 : ((c : Int) == 95) = false := by simp; omega
        by_cases h0 : 0 < k
        · have HV : Hid (nameOk s = false) := hbad.out (by unfold charOk letterOk; simp; omega)
          clear hr
          go_wp2
          go_ret
          rw [HV.out]
          exact ⟨rfl, rfl⟩
        · have HV : Hid (nameOk s = false) := hbad.out (by unfold charOk letterOk; simp; omega)
          clear hr
          go_wp2
          go_ret
          rw [HV.out]
          exact ⟨rfl, rfl⟩
    · have hv : Hid (nameOk s = decide (1 ≤ s.size ∧ s.size ≤ 60)) := nameOk_good s fun i hi => HK.out i (by omega)
      by_cases h0 : 1 ≤ s.size
      all_goals
        go_wp2
        go_ret
        rw [hv.out]
        exact ⟨ret1 (by simp [h0] <;> omega), rfl⟩
end Go.Proofs.YtbcpeckmnmhfhaaGreat
namespace Go.Proofs.YtbcpeckmnmhfhaaGreat
open Go.RowKit
structure Fld where
  name : ByteArray
  number : Int
  kind : Int
  rep : Bool
  packed : Bool
  of : Int
def Fld.zero : Fld := ⟨⟨#[]⟩, 0, 0, false, false, 0⟩
def Fld.cells (f : Fld) : List Value := [.string f.name, .int .i64 f.number, .int .i64 f.kind, .bool f.rep, .bool f.packed, .int .i64 f.of]
def Fld.val (f : Fld) : Value := .agg #[.string f.name, .int .i64 f.number, .int .i64 f.kind, .bool f.rep, .bool f.packed, .int .i64 f.of]
structure Fld.Ok (f : Fld) : Prop where
  name : f.name.size ≤ 140737488355328
  number : -9223372036854775808 ≤ f.number ∧ f.number ≤ 9223372036854775807
  kind : -9223372036854775808 ≤ f.kind ∧ f.kind ≤ 9223372036854775807
  of : -9223372036854775808 ≤ f.of ∧ f.of ≤ 9223372036854775807
structure Mes where
  name : ByteArray
  fields : List Fld
def Mes.zero : Mes := ⟨⟨#[]⟩, []⟩
def FieldsAt (w : World) (v : Value) (fs : List Fld) : Prop := Seg w v 6 fs.length (fs.flatMap Fld.cells) ∧ ∀ f ∈ fs, f.Ok
def mesCells (x : Mes × Value) : List Value := [.string x.1.name, x.2]
def SchemaAt (w : World) (v : Value) (s : List Mes) : Prop :=
  ∃ fv : List Value, fv.length = s.length ∧ Seg w v 2 s.length ((s.zip fv).flatMap mesCells) ∧ (∀ m ∈ s, m.name.size ≤ 140737488355328) ∧ ∀ i, i < s.length → FieldsAt w (fv.getD i undef) (s.getD i .zero).fields
theorem FieldsAt.keep {w w' : World} {v : Value} {fs : List Fld} (h : FieldsAt w v fs) (hk : ∀ p u, w.cell? p = some u → w'.cell? p = some u) : FieldsAt w' v fs := ⟨h.1.keep hk, h.2⟩
theorem SchemaAt.keep {w w' : World} {v : Value} {s : List Mes} (h : SchemaAt w v s) (hk : ∀ p u, w.cell? p = some u → w'.cell? p = some u) : SchemaAt w' v s := by
  obtain ⟨fv, h1, h2, h3, h4⟩ := h
  exact ⟨fv, h1, h2.keep hk, h3, fun i hi => (h4 i hi).keep hk⟩
theorem SchemaAt.below {w w' : World} {v : Value} {s : List Mes} (h : SchemaAt w v s) (hb : Below w.heap.size w w') : SchemaAt w' v s := h.keep (below_keeps hb)
theorem FieldsAt.below {w w' : World} {v : Value} {s : List Fld} (h : FieldsAt w v s) (hb : Below w.heap.size w w') : FieldsAt w' v s := h.keep (below_keeps hb)
/-- The j-th cell of the i-th row. -/
theorem flat_get {α : Type} (f : α → List Value) (k : Nat) (hf : ∀ x, (f x).length = k) : ∀ (l : List α) (i j : Nat) (x : α), l[i]? = some x → j < k → (l.flatMap f)[i * k + j]? = (f x)[j]?
  | [], _, _, _, h, _ => by simp at h
  | y :: l, 0, j, x, h, hj => by
    simp at h
    subst h
    rw [List.flatMap_cons, Nat.zero_mul, Nat.zero_add, List.getElem?_append_left (by rw [hf]; exact hj)]
  | y :: l, i + 1, j, x, h, hj => by
    have := flat_get f k hf l i j x (by simpa using h) hj
    rw [List.flatMap_cons, List.getElem?_append_right (by rw [hf, Nat.succ_mul]; omega), hf]
    rw [show (i + 1) * k + j - k = i * k + j by rw [Nat.succ_mul]; omega]
    exact this
/-- What a walk wants of a list of fields. -/
theorem FieldsAt.open {w : World} {v : Value} {fs : List Fld} (h : FieldsAt w v fs) :
    fs.length ≤ 140737488355328 ∧ ∃ a cap, v = .slice a fs.length cap ∧
      ∀ k, k < fs.length → ∃ b o, a = some ⟨b, o, none⟩ ∧ (fs.getD k .zero).Ok ∧ w.cell? ⟨b, o + k * 6, none⟩ = some (.string (fs.getD k .zero).name) ∧ w.cell? ⟨b, o + k * 6 + 1, none⟩ = some (.int .i64 (fs.getD k .zero).number) ∧
        w.cell? ⟨b, o + k * 6 + 2, none⟩ = some (.int .i64 (fs.getD k .zero).kind) ∧ w.cell? ⟨b, o + k * 6 + 3, none⟩ = some (.bool (fs.getD k .zero).rep) ∧
        w.cell? ⟨b, o + k * 6 + 4, none⟩ = some (.bool (fs.getD k .zero).packed) ∧ w.cell? ⟨b, o + k * 6 + 5, none⟩ = some (.int .i64 (fs.getD k .zero).of) := by
  obtain ⟨⟨_, h2, a, cap, hv, h3, h4, h5, h6⟩, hok⟩ := h
  refine ⟨h2, a, cap, hv, fun k hk => ?_⟩
  have hx : fs[k]? = some (fs.getD k .zero) := by simp [List.getD, hk]
  have hc := fun j (hj : j < 6) => flat_get Fld.cells 6 (fun _ => rfl) fs k j _ hx hj
  have get : ∀ j (hj : j < 6) u, (fs.getD k .zero).cells[j]? = some u → ∃ b o, a = some ⟨b, o, none⟩ ∧ w.cell? ⟨b, o + k * 6 + j, none⟩ = some u := fun j hj u hu => by
    obtain ⟨b, o, ha, hcell⟩ := h6 _ u ((hc j hj).trans hu)
    exact ⟨b, o, ha, by rw [Nat.add_assoc]; exact hcell⟩
  obtain ⟨b, o, ha, g0⟩ := get 0 (by omega) _ rfl
  have get' : ∀ j (hj : j < 6) u, (fs.getD k .zero).cells[j]? = some u → w.cell? ⟨b, o + k * 6 + j, none⟩ = some u := fun j hj u hu => by
    obtain ⟨b', o', ha', hcell⟩ := get j hj u hu
    rw [ha] at ha'
    cases ha'
    exact hcell
  exact ⟨b, o, ha, hok _ (List.mem_of_getElem? hx), g0, get' 1 (by omega) _ rfl, get' 2 (by omega) _ rfl, get' 3 (by omega) _ rfl, get' 4 (by omega) _ rfl, get' 5 (by omega) _ rfl⟩
/-- What a walk wants of a schema. -/
theorem SchemaAt.open {w : World} {v : Value} {s : List Mes} (h : SchemaAt w v s) :
    s.length ≤ 140737488355328 ∧ ∃ a cap, v = .slice a s.length cap ∧
      ∀ k, k < s.length → ∃ b o fv, a = some ⟨b, o, none⟩ ∧ (s.getD k .zero).name.size ≤ 140737488355328 ∧ w.cell? ⟨b, o + k * 2, none⟩ = some (.string (s.getD k .zero).name) ∧ w.cell? ⟨b, o + k * 2 + 1, none⟩ = some fv ∧
        FieldsAt w fv (s.getD k .zero).fields := by
  obtain ⟨fv, hl, ⟨_, h2, a, cap, hv, h3, h4, h5, h6⟩, hn, hf⟩ := h
  refine ⟨h2, a, cap, hv, fun k hk => ?_⟩
  have hx : (s.zip fv)[k]? = some (s.getD k .zero, fv.getD k undef) := by
    rw [List.getElem?_zip_eq_some]
    simp [List.getD, hk, hl]
  have hc := fun j (hj : j < 2) => flat_get mesCells 2 (fun _ => rfl) (s.zip fv) k j _ hx hj
  obtain ⟨b, o, ha, g0⟩ := h6 _ _ ((hc 0 (by omega)).trans rfl)
  obtain ⟨b', o', ha', g1⟩ := h6 _ _ ((hc 1 (by omega)).trans rfl)
  rw [ha] at ha'
  cases ha'
  have hx2 : s[k]? = some (s.getD k .zero) := by simp [List.getD, hk]
  exact ⟨b, o, _, ha, hn _ (List.mem_of_getElem? hx2), g0, by rw [Nat.add_assoc]; exact g1, hf k hk⟩
/-- A fresh name for the world at which the walk stands. -/
theorem calls_gen {P : Program} {f : FuncId} {args : Array Value} {R : Ending → World → Prop} (W : World) (F : World → Prop) (hF : F W) (h : ∀ w', F w' → Calls P f args w' R) : Calls P f args W R := h W hF
/-- .. the world has at most new blocks, and other values in block r. -/
theorem grown_refl (w : World) (r : Option Nat) : w.grownBy w r := ⟨rfl, rfl, rfl, Nat.le_refl _, fun _ _ _ => rfl⟩
theorem grown_below {w w' w2 : World} {r : Option Nat} (h : w.grownBy w' r) (hb : Below w'.heap.size w' w2) : w.grownBy w2 r :=
  ⟨hb.os.trans h.os, hb.tape.trans h.tape, hb.output.trans h.output, Nat.le_trans h.size hb.size, fun k hk hr => (hb.block k (by have := h.size; omega)).trans (h.block k hk hr)⟩
theorem grown_putMap {K : Type} [DecidableEq K] {w w' : World} {r : Nat} {kv : K → Value} {es : List (K × Value)} (h : w.grownBy w' (some r)) : w.grownBy (putMap w' r kv es) (some r) :=
  ⟨h.os, h.tape, h.output, by rw [putMap_size]; exact h.size, fun k hk hr => (putMap_other (fun e => hr (by rw [e]))).trans (h.block k hk hr)⟩
end Go.Proofs.YtbcpeckmnmhfhaaGreat
