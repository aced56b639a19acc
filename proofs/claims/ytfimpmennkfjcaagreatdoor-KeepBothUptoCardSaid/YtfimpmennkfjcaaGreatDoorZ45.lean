/- Parts of a proof: texts of the author, merged. No condition of their own. -/
import Derived.Test.YtfimpmennkfjcaaGreatDoorZ06
import Derived.Test.YtfimpmennkfjcaaGreatDoorZ07
import Derived.Test.YtfimpmennkfjcaaGreatDoorZ14
import Derived.Test.YtfimpmennkfjcaaGreatDoorZ36
import Derived.Test.YtfimpmennkfjcaaGreatDoorZ38
import Derived.Test.YtfimpmennkfjcaaGreatDoorZ39
import Derived.Test.YtfimpmennkfjcaaGreatDoorZ40
import Derived.StillTailTactics
import Derived.Deep.RegionHeld3
import Derived.Deep.DeepCutAuto
namespace Go.Proofs.YtfimpmennkfjcaaGreatDoor
open Go.RowKit
end Go.Proofs.YtfimpmennkfjcaaGreatDoor
namespace Go.Proofs.YtfimpmennkfjcaaGreatDoor
open Go.RowKit
theorem size_strp1 (w:World):(sizeOf 9).run Tryz.prog w = .ok 1 w:=by kernel_rfl
end Go.Proofs.YtfimpmennkfjcaaGreatDoor
namespace Go.Proofs.YtfimpmennkfjcaaGreatDoor
open Go.RowKit
end Go.Proofs.YtfimpmennkfjcaaGreatDoor
namespace Go.Proofs.YtfimpmennkfjcaaGreatDoor
open Go.RowKit
theorem twt_snoc (l:List (List UInt8)) (k:Nat) (t:List UInt8) (h:l[k]? = some t):twt (l.take (k + 1)) = twt (l.take k) + (1 + t.length):=sum_take _ l k t h
set_option maxRecDepth 100000 in
set_option maxHeartbeats 4000000 in
theorem law12_Long {w:World} {v:Value} {l:List (List UInt8)} (h:StrsAt w v l) (hw:twt l ≤ 1099511627776) :
  Calls Tryz.prog 9 #[v] w fun e w' => e = .returned (.bool (decide (6000 < twt l))) ∧ w = w':=by
 obtain ⟨hl,a,c,rfl,-,hat⟩:=h.open
 obtain ⟨n,HN⟩:∃ n,Hid (n = l.length):=⟨_,rfl⟩
 rw [← HN.out] at hl ⊢
 obtain ⟨y,HY⟩:∃ y,Hid (y = twt l):=⟨_,rfl⟩
 have HAT:=hid hat
 have hy:y ≤ 1099511627776:=by rw [HY.out];exact hw
 rw [← HY.out]
 clear hat h hw
 go_enter Tryz.func9,Tryz.ntmps9
 go_wp2_with fail
 go_loopw [3,4] (fun v3 v4 wr => ∃ z i:Nat,v3 = .int .i64 z ∧ v4 = .int .i64 i ∧ i ≤ n ∧ z ≤ 1099511627776 ∧ Hid (z = twt (l.take i)) ∧ w = wr) (fun _ v4 _ => n - (intOf v4).toNat)
 case atStart => exact ⟨0,0,rfl,rfl,by omega,by omega,rfl,rfl⟩
 case round =>
  obtain ⟨z,i,rfl,rfl,hi,hz,HZ,rfl⟩:=hrel
  by_cases h1:i < n
  ·
   have hxi:l[i]? = some (l[i]'(by rw [← HN.out];exact h1)):=List.getElem?_eq_getElem _
   generalize l[i]'(by rw [← HN.out];exact h1) = x at hxi
   obtain ⟨hxl,b,o,ha,g0⟩:=HAT.out i x hxi
   have hix:=index_run1 Tryz.underlying25 size_strp ha i h1 (cap:=c)
   have hbl:b < w.heap.size:=World.block_lt_of_cell? w _ g0
   have HST:Hid (z + x.length + 1 = twt (l.take (i + 1)) ∧ z + x.length + 1 ≤ 1099511627776):=by
    have h2:=twt_snoc l i x hxi
    have h3:=twt_take' l (i + 1)
    have h4:=HZ.out
    have h5:=HY.out
    exact ⟨by omega,by omega⟩
   unfold strV at g0
   have hsb:(⟨x.toArray⟩:ByteArray).size = x.length:=str_size x
   obtain ⟨xs,HXS⟩:∃ xs:ByteArray,Hid (xs = ⟨x.toArray⟩):=⟨_,rfl⟩
   obtain ⟨xl,HXL⟩:∃ xl,Hid (xl = x.length):=⟨_,rfl⟩
   rw [← HXS.out] at g0 hsb
   rw [← HXL.out] at hsb HST hxl
   have hzb:=HST.out.2
   clear hxi ha
   go_wp2_with fail
   go_roundw
   case rel => exact ⟨z + xl + 1,i + 1,by first | go_num | (rw [hsb];go_num),by go_num,h1,HST.out.2,HST.out.1,by first | trivial | rfl⟩
   case measure => simp [intOf];omega
  ·
   obtain rfl:i = n:=by omega
   have HZY:Hid (z = y):=by
    have:=HZ.out
    rw [HN.out,List.take_length] at this
    rw [Hid,this,HY.out]
   by_cases hb:6000 < z
   ·
    have HD:Hid (decide (6000 < y) = true):=by rw [Hid,← HZY.out];exact decide_eq_true hb
    go_wp2_with fail
    go_ret
    exact ⟨by rw [HD.out];first | done | rfl | (simp;done) | (simp;omega),rfl⟩
   ·
    have HD:Hid (decide (6000 < y) = false):=by rw [Hid,← HZY.out];exact decide_eq_false hb
    go_wp2_with fail
    go_ret
    exact ⟨by rw [HD.out];first | done | rfl | (simp;done) | (simp;omega),rfl⟩
end Go.Proofs.YtfimpmennkfjcaaGreatDoor
namespace Go.Proofs.YtfimpmennkfjcaaGreatDoor
open Go.RowKit
theorem vloop_code (rec:Nat → List UInt8 → Nat × Nat) (deep:Bool) (fs:List Fld) (l:List UInt8) (hrec:∀ o x,(rec o x).2 < 256):∀ (k i:Nat),(vloop rec deep fs l k i).2 < 256
 | 0,_ => by rw [vloop];decide
 | k + 1,i => by
  rw [vloop]
  by_cases hi:l.length ≤ i
  ·
   rw [if_pos hi];decide
  rw [if_neg hi]
  have hv:(vlook fs l i).2.2.2 < 256 ∧ (vval rec deep fs l (vlook fs l i)).2 < 256:=by
   rcases vlook_cases fs l i with ⟨c,h,e,h2⟩ | ⟨r,h1,h2,h3,h4,-,e | ⟨j,run,-,e,-⟩⟩
   ·
    rw [e]
    refine ⟨h2,?_⟩
    unfold vval
    rw [if_neg (by simp)]
    simp only [Bool.false_eq_true,if_false]
    split
    ·
     split <;> simp
    ·
     split
     ·
      split
      ·
       simp
      ·
       exact hrec _ _
     ·
      simp
   ·
    rw [e];exact ⟨by simp,by simp [vval]⟩
   ·
    rw [e]
    refine ⟨by simp,?_⟩
    unfold vval
    rw [if_neg (by show ¬ ((j:Int) < 0);omega)]
    simp only [Int.toNat_natCast]
    split
    ·
     have:=runCount_lt (kwire (fs.getD j .zero).kind) (part l r.at' r.to)
     show (runCount _ _).2 < 256;omega
    ·
     split
     ·
      split <;> simp
     ·
      split
      ·
       split
       ·
        simp
       ·
        exact hrec _ _
      ·
       simp
  by_cases hc:(vlook fs l i).2.2.2 ≠ 0
  ·
   rw [if_pos hc];exact hv.1
  rw [if_neg hc]
  by_cases hv2:(vval rec deep fs l (vlook fs l i)).2 ≠ 0
  ·
   rw [if_pos hv2];exact hv.2
  ·
   rw [if_neg hv2];exact vloop_code rec deep fs l hrec k _
theorem vmsg_code (s:List Mes):∀ (d m:Nat) (l:List UInt8),(vmsg s d m l).2 < 256
 | 0,m,l => vloop_code _ _ _ l (fun _ _ => by decide) _ _
 | d + 1,m,l => vloop_code _ _ _ l (vmsg_code s d) _ _
theorem vcheck_code (s:List Mes) (root:Int) (l:List UInt8) (d:Int):(vcheck s root l d).2 < 256:=by
 unfold vcheck
 by_cases h:argsCode s root d ≠ 0
 ·
  rw [if_pos h];have:=args_cases s root d;show argsCode s root d < 256;omega
 ·
  rw [if_neg h];exact vmsg_code _ _ _ _
end Go.Proofs.YtfimpmennkfjcaaGreatDoor
