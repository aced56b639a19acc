/- Parts of a proof: texts of the author, merged. No condition of their own. -/
import Derived.Test.YtfimpmennkfjcaaGreatDoorZ05
import Derived.Test.YtfimpmennkfjcaaGreatDoorZ13
import Derived.Test.YtfimpmennkfjcaaGreatDoorZ14
import Derived.Deep.AppendLies
import Derived.Deep.RegionHeld3
import Derived.Deep.DeepCutAuto
import Derived.Laws.BitsAllLaws
namespace Go.Proofs.YtfimpmennkfjcaaGreatDoor
open Go.RowKit Go.Shelf
attribute [local go_sem] Oper.semAt_some
structure Ev where
 i:Nat
 at':Nat
 ff:Nat
 tt:Nat
 c:Nat
end Go.Proofs.YtfimpmennkfjcaaGreatDoor
namespace Go.Proofs.YtfimpmennkfjcaaGreatDoor
open Go.RowKit
set_option maxRecDepth 100000 in
set_option maxHeartbeats 4000000 in
theorem law07_Few {w:World} {v:Value} {s:List Mes} (hS:SchemaAt w v s) :
  Calls Tryz.prog 8 #[v] w fun e w' => (∃ b,e = .returned (.bool b)) ∧ Below w.heap.size w w':=by
 obtain ⟨hlen,a,cap,rfl,hat⟩:=hS.open
 obtain ⟨n,HN⟩:∃ n,Hid (n = s.length):=⟨_,rfl⟩
 rw [← HN.out] at hat hlen ⊢
 have HAT:=hid hat
 clear hat hS
 go_enter Tryz.func8,Tryz.ntmps8
 go_wp2_with fail
 go_loopw [3,4,5] (fun v3 v4 _ wr => ∃ (z:Int) (i:Nat),v3 = .int .i64 z ∧ i ≤ n ∧ v4 = .int .i64 i ∧ Hid (Below w.heap.size w wr)) (fun _ v4 _ _ => n - (intOf v4).toNat)
 case atStart => exact ⟨0,0,rfl,by omega,rfl,Below.refl _ _⟩
 case round =>
  obtain ⟨z,i,rfl,hi,rfl,HB⟩:=hrel
  by_cases hlt:i < n
  ·
   have hat:=HAT.out
   obtain ⟨b,o,fv,ha,hnm,c0,c1,hfs⟩:=hat i hlt
   obtain ⟨fl,fa,fcap,rfl,hft⟩:=hfs.open
   clear hat hfs
   obtain ⟨fn,HFN⟩:∃ fn,Hid (fn = (s.getD i .zero).fields.length):=⟨_,rfl⟩
   obtain ⟨nm,HNM⟩:∃ nm,Hid (nm = (s.getD i .zero).name):=⟨_,rfl⟩
   rw [← HFN.out] at fl c1 hft
   rw [← HNM.out] at hnm c0
   have HFT:=hid hft
   clear hft
   have hkr:=below_keeps HB.out
   replace c0:=hkr _ _ c0
   replace c1:=hkr _ _ c1
   clear hkr
   have hix:=index_run Tryz.underlying23 size_mes ha i hlt (cap:=cap)
   have hbl:b < wr.heap.size:=World.block_lt_of_cell? wr _ c0
   clear ha
   go_wp2_with fail
   go_quiet (fail)
   go_wp2_with fail
   obtain ⟨wo,HWO⟩:∃ wo,Hid (wo = wr.drewN nq):=⟨_,rfl⟩
   rw [← HWO.out]
   have HBO:Hid (Below w.heap.size w wo):=by rw [HWO.out];exact below_drewN HB.out _
   replace c1:wo.cell? ⟨b,o + i * 2 + 1,none⟩ = some (.slice fa fn fcap):=by rw [HWO.out];exact c1
   clear c0 hbl
   have HC1:=hid c1
   clear c1
   go_loopw [3,5] (fun v3 v5 wq => ∃ (z:Int) (k:Nat),v3 = .int .i64 z ∧ k ≤ fn ∧ v5 = .int .i64 k ∧ Hid (Below wo.heap.size wo wq)) (fun _ v5 _ => fn - (intOf v5).toNat)
   case atStart => exact ⟨_,0,rfl,by omega,rfl,Below.refl _ _⟩
   case round =>
    obtain ⟨z2,k,rfl,hk,rfl,HBQ⟩:=hrel
    have c1:=below_keeps HBQ.out _ _ HC1.out
    have hbl:b < wr.heap.size:=World.block_lt_of_cell? wr _ c1
    by_cases hlk:k < fn
    ·
     have hft:=HFT.out
     obtain ⟨b2,o2,ha2,hok,g0,-⟩:=hft k hlk
     clear hft
     have hkr:=below_keeps (HBO.out.trans (HBQ.out.mono HBO.out.size))
     replace g0:=hkr _ _ g0
     clear hkr
     obtain ⟨fx,HFX⟩:∃ fx,Hid (fx = (s.getD i .zero).fields.getD k .zero):=⟨_,rfl⟩
     rw [← HFX.out] at hok g0
     have hsz:=hok.name
     have hix2:=index_run Tryz.underlying65 size_fld ha2 k hlk (cap:=fcap)
     have hbl2:b2 < wr.heap.size:=World.block_lt_of_cell? wr _ g0
     clear ha2 hok
     go_wp2_with fail
     go_roundw
     case rel => exact ⟨_,k + 1,rfl,hlk,by go_num,HBQ⟩
     case measure => simp [intOf];omega
    ·
     go_wp2_with fail
     go_roundw
     case rel => exact ⟨_,i + 1,rfl,hlt,by go_num,HBO.out.trans (HBQ.out.mono HBO.out.size)⟩
     case measure => simp [intOf];omega
  ·
   go_wp2_with fail
   go_ret
   exact ⟨⟨_,rfl⟩,HB.out⟩
end Go.Proofs.YtfimpmennkfjcaaGreatDoor
namespace Go.Proofs.YtfimpmennkfjcaaGreatDoor
open Go.RowKit Go.Shelf
def Rows (W:World) (base:Nat) (lv:Value) (ls:List (List UInt8)):Prop:=
 ∃ vs:List Value,W.ownsRow base 24 1 lv ls.length vs ∧ vs.length = ls.length ∧ ∀ j,j < ls.length → Own W base (vs.getD j undef) (ls.getD j [])
theorem Own.mono {W:World} {b b':Nat} {v:Value} {l:List UInt8} (h:Own W b v l) (hb:b' ≤ b):Own W b' v l:=
 ⟨h.1,h.2.imp id (fun ⟨g,cap,cur,hv,hg,r⟩ => ⟨g,cap,cur,hv,Nat.le_trans hb hg,r⟩)⟩
theorem Own.form {w:World} {base:Nat} {v:Value} {l:List UInt8} (h:Own w base v l):∃ a c,v = .slice a l.length c:=by
 rcases h.2 with ⟨rfl,h0⟩ | ⟨g,cap,cur,rfl,_⟩
 ·
  exact ⟨none,0,by rw [h0]⟩
 ·
  exact ⟨_,_,rfl⟩
end Go.Proofs.YtfimpmennkfjcaaGreatDoor
namespace Go.Proofs.YtfimpmennkfjcaaGreatDoor
open Go.RowKit
theorem knum_cases {k:Int} (h:knumber k = true):k = 1 ∨ k = 2 ∨ k = 3 ∨ k = 4 ∨ k = 5 ∨ k = 6 ∨ k = 7 ∨ k = 8 ∨ k = 9 ∨ k = 10 ∨ k = 11 ∨ k = 12 ∨ k = 13 ∨ k = 14:=by
 have h':1 ≤ k ∧ k ≤ 14:=of_decide_eq_true h
 omega
set_option maxRecDepth 100000 in
set_option maxHeartbeats 4000000 in
theorem kind_Canon_32 (k:Int) (hk:k = 1 ∨ k = 8) (x:Nat) (w:World) :
  Calls Tryz.prog 154 #[.int .i64 k,.int .u64 x] w fun e w' => e = .returned (.tuple #[.int .u64 (kcanon k x),.int .u8 0]) ∧ Below w.heap.size w w':=by
 have HC:Hid (kcanon k x = w32 x):=by rw [Hid,kcanon,if_pos hk]
 have HK:Hid (knumber k = true):=by rcases hk with rfl | rfl <;> rfl
 rcases hk with rfl | rfl
 all_goals
  go_enter Tryz.func154,Tryz.ntmps154
  go_wp2_with (first | (go_at_call 118;refine (kind_Number _ _).mono ?_;rintro e w1 ⟨rfl,hb⟩;rw [HK.out]) | (go_at_call 181;refine (bits_Sign32 x _).mono ?_;rintro e w2 ⟨rfl,rfl⟩) | (go_at_call 180;refine (bits_Wide32 x _).mono ?_;rintro e w3 ⟨rfl,rfl⟩))
  go_ret2
  exact ⟨by rw [HC.out];rfl,hb⟩
set_option maxRecDepth 100000 in
set_option maxHeartbeats 4000000 in
theorem kind_Canon_7 (x:Nat) (w:World) :
  Calls Tryz.prog 154 #[.int .i64 7,.int .u64 x] w fun e w' => e = .returned (.tuple #[.int .u64 (kcanon 7 x),.int .u8 0]) ∧ Below w.heap.size w w':=by
 have HK:Hid (knumber 7 = true):=rfl
 by_cases h:0 < x
 ·
  have HC:Hid (kcanon 7 x = 1):=by simp [Hid,kcanon,h]
  go_enter Tryz.func154,Tryz.ntmps154
  go_wp2_with (go_at_call 118;refine (kind_Number _ _).mono ?_;rintro e w1 ⟨rfl,hb⟩;rw [HK.out])
  go_ret2
  exact ⟨by rw [HC.out];rfl,hb⟩
 ·
  have HC:Hid (kcanon 7 x = 0):=by simp [Hid,kcanon,h]
  obtain rfl:x = 0:=by omega
  go_enter Tryz.func154,Tryz.ntmps154
  go_wp2_with (go_at_call 118;refine (kind_Number _ _).mono ?_;rintro e w1 ⟨rfl,hb⟩;rw [HK.out])
  go_ret2
  exact ⟨by rw [HC.out];rfl,hb⟩
theorem field_form (s:ByteArray) (a b:Int) (w:World):(Instr.field 223 (.agg #[.string s,.int .i64 a,.int .i64 b]) 2).run Tryz.prog w = .ok (.int .i64 b) w:=by kernel_rfl
theorem forms_at {k:Int} {n:Nat} (h:kright k = true) (hn:kbits k = n):∀ (W:World) (r:Nat),MapIs W r intK formsL →
  (Instr.lookup 225 (.map (some r)) (.int .i64 k) false).run Tryz.prog W = .ok (.agg #[.string (kname k),.int .i64 (kwire k),.int .i64 n]) W:=by
 intro W r hm
 have hl:=map_lookup (P:=Tryz.prog) intK_ok Tryz.underlying225 form_zero hm k false
 rw [getOf_forms,if_pos h,hn] at hl
 exact hl
set_option maxRecDepth 100000 in
set_option maxHeartbeats 4000000 in
theorem kind_Canon_low (k:Int) (hk:k = 3 ∨ k = 5 ∨ k = 9 ∨ k = 10 ∨ k = 11) (x:Nat) (w:World) :
  Calls Tryz.prog 154 #[.int .i64 k,.int .u64 x] w fun e w' => e = .returned (.tuple #[.int .u64 (kcanon k x),.int .u8 0]) ∧ Below w.heap.size w w':=by
 have HC:Hid (kcanon k x = x % 4294967296):=by rw [Hid,kcanon,if_neg (by omega),if_neg (by omega),if_pos hk]
 have HK:Hid (knumber k = true):=by rcases hk with rfl | rfl | rfl | rfl | rfl <;> rfl
 have HL:=hid (forms_at (k:=k) (n:=32) (by rcases hk with rfl | rfl | rfl | rfl | rfl <;> rfl) (by rcases hk with rfl | rfl | rfl | rfl | rfl <;> rfl))
 rcases hk with rfl | rfl | rfl | rfl | rfl
 all_goals
  go_enter Tryz.func154,Tryz.ntmps154
  go_wp2_with (go_at_call 118;refine (kind_Number _ _).mono ?_;rintro e w1 ⟨rfl,hb⟩;rw [HK.out])
  refine (kind_forms _).mono ?_
  rintro e w2 ⟨r,hm,hr,hb2,rfl⟩
  have hl:=HL.out w2 r hm
  have hfd:=field_form
  have HB:Hid (Below w.heap.size w w2):=hb.trans (hb2.mono hb.size)
  clear hb hb2
  go_wp2_with (go_at_call 182;refine (bits_Low32 x _).mono ?_;rintro e w3 ⟨rfl,rfl⟩)
  go_ret2
  exact ⟨by rw [HC.out];first | rfl | go_num | (simp [go_sem];omega),HB.out⟩
set_option maxRecDepth 100000 in
set_option maxHeartbeats 4000000 in
theorem kind_Canon_whole (k:Int) (hk:k = 2 ∨ k = 4 ∨ k = 6 ∨ k = 12 ∨ k = 13 ∨ k = 14) (x:Nat) (w:World) :
  Calls Tryz.prog 154 #[.int .i64 k,.int .u64 x] w fun e w' => e = .returned (.tuple #[.int .u64 (kcanon k x),.int .u8 0]) ∧ Below w.heap.size w w':=by
 have HC:Hid (kcanon k x = x):=by rw [Hid,kcanon,if_neg (by omega),if_neg (by omega),if_neg (by omega)]
 have HK:Hid (knumber k = true):=by rcases hk with rfl | rfl | rfl | rfl | rfl | rfl <;> rfl
 have HL:=hid (forms_at (k:=k) (n:=64) (by rcases hk with rfl | rfl | rfl | rfl | rfl | rfl <;> rfl) (by rcases hk with rfl | rfl | rfl | rfl | rfl | rfl <;> rfl))
 rcases hk with rfl | rfl | rfl | rfl | rfl | rfl
 all_goals
  go_enter Tryz.func154,Tryz.ntmps154
  go_wp2_with (go_at_call 118;refine (kind_Number _ _).mono ?_;rintro e w1 ⟨rfl,hb⟩;rw [HK.out])
  refine (kind_forms _).mono ?_
  rintro e w2 ⟨r,hm,hr,hb2,rfl⟩
  have hl:=HL.out w2 r hm
  have hfd:=field_form
  have HB:Hid (Below w.heap.size w w2):=hb.trans (hb2.mono hb.size)
  clear hb hb2
  go_wp2_with fail
  go_ret2
  exact ⟨by rw [HC.out];rfl,HB.out⟩
theorem kind_Canon {k:Int} (hk:knumber k = true) (x:Nat) (w:World) :
  Calls Tryz.prog 154 #[.int .i64 k,.int .u64 x] w fun e w' => e = .returned (.tuple #[.int .u64 (kcanon k x),.int .u8 0]) ∧ Below w.heap.size w w':=by
 rcases knum_cases hk with h | h | h | h | h | h | h | h | h | h | h | h | h | h
 case inr.inr.inr.inr.inr.inr.inl => subst h;exact kind_Canon_7 x w
 all_goals first
  | exact kind_Canon_32 k (by omega) x w
  | exact kind_Canon_low k (by omega) x w
  | exact kind_Canon_whole k (by omega) x w
set_option maxRecDepth 100000 in
set_option maxHeartbeats 4000000 in
theorem ref06_Canon {k:Int} (hk:knumber k = true) (x:Nat) (w:World) :
  Calls Tryz.prog 72 #[.int .i64 k,.int .u64 x] w fun e w' => e = .returned (.int .u64 (kcanon k x)) ∧ w = w':=by
 have H32:Hid ((k = 1 ∨ k = 8) → kcanon k x = w32 x):=fun h => by rw [kcanon,if_pos h]
 have HLO:Hid ((k = 3 ∨ k = 5 ∨ k = 9 ∨ k = 10 ∨ k = 11) → kcanon k x = x % 4294967296):=fun h => by rw [kcanon,if_neg (by omega),if_neg (by omega),if_pos h]
 have HWH:Hid ((k = 2 ∨ k = 4 ∨ k = 6 ∨ k = 12 ∨ k = 13 ∨ k = 14) → kcanon k x = x):=fun h => by rw [kcanon,if_neg (by omega),if_neg (by omega),if_neg (by omega)]
 have H7:Hid (k = 7 → kcanon k x = if 0 < x then 1 else 0):=fun h => by rw [kcanon,if_neg (by omega),if_pos h]
 have hk':=knum_cases hk
 clear hk
 rcases hk' with rfl | rfl | rfl | rfl | rfl | rfl | rfl | rfl | rfl | rfl | rfl | rfl | rfl | rfl
 case inr.inr.inr.inr.inr.inr.inl =>
  by_cases h:0 < x
  ·
   have HC:Hid (kcanon 7 x = 1):=by rw [Hid,H7.out rfl,if_pos h]
   go_enter Tryz.func72,Tryz.ntmps72
   go_wp2_with fail
   go_ret
   exact ⟨by rw [HC.out];rfl,rfl⟩
  ·
   have HC:Hid (kcanon 7 x = 0):=by rw [Hid,H7.out rfl,if_neg h]
   go_enter Tryz.func72,Tryz.ntmps72
   go_wp2_with fail
   go_ret
   exact ⟨by rw [HC.out];rfl,rfl⟩
 all_goals
  go_enter Tryz.func72,Tryz.ntmps72
  go_wp2_with (first | (go_at_call 101;refine (ref01_Sign32 x _).mono ?_;rintro e w2 ⟨rfl,rfl⟩) | (go_at_call 100;refine (ref01_Wide x _).mono ?_;rintro e w3 ⟨rfl,rfl⟩))
  go_ret
  first
   | exact ⟨by rw [H32.out (by decide)];rfl,rfl⟩
   | exact ⟨by rw [HLO.out (by decide)];exact ret1 (int_eq (by omega)),rfl⟩
   | exact ⟨by rw [HWH.out (by decide)];rfl,rfl⟩
end Go.Proofs.YtfimpmennkfjcaaGreatDoor
namespace Go.Proofs.YtfimpmennkfjcaaGreatDoor
open Go.RowKit
theorem size_str (w:World):(sizeOf 9).run Tryz.prog w = .ok 1 w:=by kernel_rfl
theorem size_u64 (w:World):(sizeOf 86).run Tryz.prog w = .ok 1 w:=by kernel_rfl
end Go.Proofs.YtfimpmennkfjcaaGreatDoor
namespace Go.Proofs.YtfimpmennkfjcaaGreatDoor
open Go.RowKit
theorem little_byte (x k:Nat):(x:Int) / 2 ^ (8 * k) % 256 = ((b8 (x / 256 ^ k % 256)).toNat:Int):=by
 have e:(2:Int) ^ (8 * k) = ((256 ^ k:Nat):Int):=by
  rw [Int.pow_mul]
  simp
 rw [e]
 simp [b8]
set_option maxRecDepth 100000 in
set_option maxHeartbeats 4000000 in
theorem bits_Little_4 (x:Nat) (w:World) :
  Calls Tryz.prog 156 #[.int .u64 x,.int .i64 4] w fun e w' => ∃ v',e = .returned v' ∧ Own w' w.heap.size v' (little 4 x) ∧ Below w.heap.size w w':=by
 go_enter Tryz.func156,Tryz.ntmps156
 go_wp2_with fail
 go_loopw [5,6,10] (fun v5 _ v10 wr => ∃ k:Nat,k ≤ 4 ∧ v10 = .int .i64 k ∧ Hid (Below w.heap.size w wr ∧ Own wr w.heap.size v5 (little k x))) (fun _ _ v10 _ => 4 - (intOf v10).toNat)
 case atStart => exact ⟨0,by omega,rfl,Below.refl _ _,own_nil _ _⟩
 case round =>
  obtain ⟨k,hk,rfl,HB⟩:=hrel
  by_cases hlt:k < 4
  ·
   have hB:=bytes_one wr 5 (b8 (x / 256 ^ k % 256)) ((x:Int) / 2 ^ (8 * k) % 256) (little_byte x k)
   have hlen:=little_len k x
   obtain ⟨v',w',hr,hO',hg,-⟩:=own_append (w:=wr.alloc (.cells #[.int .u8 ((x:Int) / 2 ^ (8 * k) % 256)] 5)) (World.ownsRow.alloc HB.out.2 _) hB (by rw [hlen];simp;omega) (by have:=HB.out.1.size;simp;omega)
   have HR:=hid hr
   have HO2:=hid hO'
   have hg2:=own_grown (w:=wr.alloc (.cells #[.int .u8 ((x:Int) / 2 ^ (8 * k) % 256)] 5)) (World.ownsRow.alloc HB.out.2 _) (HB.out.1.alloc HB.out.1.size _) hg
   have HG2:=hid hg2
   clear hB hlen hr hO' hg hg2
   go_wp2_with (at_builtin;refine wpList_append_eq rfl _ _ _ rfl _ _ rfl rfl HR.out ?_)
   go_roundw
   case rel => exact ⟨k + 1,hlt,by go_num,HG2.out,by rw [little_succ];exact HO2.out⟩
   case measure => simp [intOf];omega
  ·
   obtain rfl:k = 4:=by omega
   go_wp2_with fail
   go_ret
   exact ⟨_,rfl,HB.out.2,HB.out.1⟩
set_option maxRecDepth 100000 in
set_option maxHeartbeats 4000000 in
theorem bits_Little_8 (x:Nat) (w:World) :
  Calls Tryz.prog 156 #[.int .u64 x,.int .i64 8] w fun e w' => ∃ v',e = .returned v' ∧ Own w' w.heap.size v' (little 8 x) ∧ Below w.heap.size w w':=by
 go_enter Tryz.func156,Tryz.ntmps156
 go_wp2_with fail
 go_loopw [5,6,10] (fun v5 _ v10 wr => ∃ k:Nat,k ≤ 8 ∧ v10 = .int .i64 k ∧ Hid (Below w.heap.size w wr ∧ Own wr w.heap.size v5 (little k x))) (fun _ _ v10 _ => 8 - (intOf v10).toNat)
 case atStart => exact ⟨0,by omega,rfl,Below.refl _ _,own_nil _ _⟩
 case round =>
  obtain ⟨k,hk,rfl,HB⟩:=hrel
  by_cases hlt:k < 8
  ·
   have hB:=bytes_one wr 5 (b8 (x / 256 ^ k % 256)) ((x:Int) / 2 ^ (8 * k) % 256) (little_byte x k)
   have hlen:=little_len k x
   obtain ⟨v',w',hr,hO',hg,-⟩:=own_append (w:=wr.alloc (.cells #[.int .u8 ((x:Int) / 2 ^ (8 * k) % 256)] 5)) (World.ownsRow.alloc HB.out.2 _) hB (by rw [hlen];simp;omega) (by have:=HB.out.1.size;simp;omega)
   have HR:=hid hr
   have HO2:=hid hO'
   have hg2:=own_grown (w:=wr.alloc (.cells #[.int .u8 ((x:Int) / 2 ^ (8 * k) % 256)] 5)) (World.ownsRow.alloc HB.out.2 _) (HB.out.1.alloc HB.out.1.size _) hg
   have HG2:=hid hg2
   clear hB hlen hr hO' hg hg2
   go_wp2_with (at_builtin;refine wpList_append_eq rfl _ _ _ rfl _ _ rfl rfl HR.out ?_)
   go_roundw
   case rel => exact ⟨k + 1,hlt,by go_num,HG2.out,by rw [little_succ];exact HO2.out⟩
   case measure => simp [intOf];omega
  ·
   obtain rfl:k = 8:=by omega
   go_wp2_with fail
   go_ret
   exact ⟨_,rfl,HB.out.2,HB.out.1⟩
set_option maxRecDepth 100000 in
set_option maxHeartbeats 4000000 in
theorem scalar_wide (k:Int) (hk:k = 0 ∨ k = 1 ∨ k = 5) (w:World) :
  Calls Tryz.prog 153 #[.int .i64 k] w fun e w' => e = .returned (.int .i64 (if k = 1 then 8 else if k = 5 then 4 else 0)) ∧ w = w':=by
 rcases hk with rfl | rfl | rfl
 all_goals
  go_enter Tryz.func153,Tryz.ntmps153
  go_wp2_with fail
  go_ret
  exact ⟨rfl,rfl⟩
theorem kput_cases {k:Int} (hk:knumber k = true):(kwire k = 1 ∧ ∀ x,kput k x = little 8 (kcanon k x)) ∨ (kwire k = 5 ∧ ∀ x,kput k x = little 4 (kcanon k x)) ∨ (kwire k = 0 ∧ ∀ x,kput k x = vput (kcanon k x)):=by
 have hk':1 ≤ k ∧ k ≤ 14:=of_decide_eq_true hk
 unfold kwire kput
 rw [if_neg (by omega),if_neg (by omega)]
 by_cases h1:12 ≤ k
 ·
  exact .inl ⟨by rw [if_pos h1],fun x => by rw [if_pos h1]⟩
 ·
  by_cases h2:9 ≤ k
  ·
   exact .inr (.inl ⟨by rw [if_neg h1,if_pos h2],fun x => by rw [if_neg h1,if_pos h2]⟩)
  ·
   exact .inr (.inr ⟨by rw [if_neg h1,if_neg h2],fun x => by rw [if_neg h1,if_neg h2]⟩)
set_option maxRecDepth 100000 in
set_option maxHeartbeats 4000000 in
theorem scalar_Put {k:Int} (hk:knumber k = true) (x:Nat) (hx:x < 2 ^ 64) (w:World) :
  Calls Tryz.prog 121 #[.int .i64 k,.int .u64 x] w fun e w' => ∃ v',e = .returned (.tuple #[v',.int .u8 0]) ∧ Own w' w.heap.size v' (kput k x) ∧ Below w.heap.size w w':=by
 have HK:=hid hk
 have hkr:kright k = true:=by
  have h:1 ≤ k ∧ k ≤ 14:=of_decide_eq_true hk
  simp [kright];omega
 have HKR:=hid hkr
 have HC64:=hid (kcanon_lt k hx)
 obtain ⟨y,HY⟩:∃ y,Hid (y = kcanon k x):=⟨_,rfl⟩
 rw [← HY.out] at HC64
 have HYL:Hid (y ≤ 18446744073709551615):=by have:=HC64.out;show _ ≤ _;omega
 have hc:=kput_cases hk
 clear hk hkr hx
 rcases hc with ⟨h1,h2⟩ | ⟨h1,h2⟩ | ⟨h1,h2⟩
 all_goals
  have H1:=hid h1
  have H2:=hid (h2 x)
  rw [← HY.out] at H2
  clear h1 h2
 ·
  go_enter Tryz.func121,Tryz.ntmps121
  go_wp2_with (first | (go_at_call 154;refine (kind_Canon HK.out _ _).mono ?_;rintro e w1 ⟨rfl,hb1⟩;rw [← HY.out]) | (go_at_call 115;refine (kind_Wire _ _).mono ?_;rintro e w2 ⟨rfl,hb2⟩;rw [HKR.out,H1.out]) | (go_at_call 153;refine (scalar_wide 1 (by decide) _).mono ?_;rintro e w3 ⟨rfl,rfl⟩) | (go_at_call 156;refine (bits_Little_8 y _).mono ?_;rintro e w4 ⟨v4,rfl,hO,hb4⟩))
  have hb:=hb1.trans (hb2.mono hb1.size)
  go_ret2
  exact ⟨_,rfl,by rw [H2.out];exact hO.mono hb.size,hb.trans (hb4.mono hb.size)⟩
 ·
  go_enter Tryz.func121,Tryz.ntmps121
  go_wp2_with (first | (go_at_call 154;refine (kind_Canon HK.out _ _).mono ?_;rintro e w1 ⟨rfl,hb1⟩;rw [← HY.out]) | (go_at_call 115;refine (kind_Wire _ _).mono ?_;rintro e w2 ⟨rfl,hb2⟩;rw [HKR.out,H1.out]) | (go_at_call 153;refine (scalar_wide 5 (by decide) _).mono ?_;rintro e w3 ⟨rfl,rfl⟩) | (go_at_call 156;refine (bits_Little_4 y _).mono ?_;rintro e w4 ⟨v4,rfl,hO,hb4⟩))
  have hb:=hb1.trans (hb2.mono hb1.size)
  go_ret2
  exact ⟨_,rfl,by rw [H2.out];exact hO.mono hb.size,hb.trans (hb4.mono hb.size)⟩
 ·
  go_enter Tryz.func121,Tryz.ntmps121
  go_wp2_with (first | (go_at_call 154;refine (kind_Canon HK.out _ _).mono ?_;rintro e w1 ⟨rfl,hb1⟩;rw [← HY.out]) | (go_at_call 115;refine (kind_Wire _ _).mono ?_;rintro e w2 ⟨rfl,hb2⟩;rw [HKR.out,H1.out]) | (go_at_call 153;refine (scalar_wide 0 (by decide) _).mono ?_;rintro e w3 ⟨rfl,rfl⟩) | (go_at_call 96;refine (varint_Put (l:=[]) (bytes_nil _) (by simp) y HC64.out).mono ?_;rintro e w4 ⟨v4,rfl,hO,hb4⟩))
  have hb:=hb1.trans (hb2.mono hb1.size)
  go_ret2
  exact ⟨_,rfl,by rw [H2.out];exact hO.mono hb.size,hb.trans (hb4.mono hb.size)⟩
set_option maxRecDepth 100000 in
set_option maxHeartbeats 4000000 in
theorem run_Pack {k:Int} (hk:knumber k = true) {w:World} {v:Value} {l:List Nat} (h:WordsAt w v l) (hl:l.length ≤ 68719476736) :
  Calls Tryz.prog 152 #[.int .i64 k,v] w fun e w' => ∃ v',e = .returned (.tuple #[v',.int .u8 0]) ∧ Own w' w.heap.size v' (kpack k l) ∧ Below w.heap.size w w':=by
 have HK:=hid hk
 have HL64:Hid (∀ x ∈ l,x < 2 ^ 64):=h.2
 obtain ⟨hlen,a,cap,rfl,-,hat⟩:=h.open
 have HPL:Hid (∀ i,(kpack k (l.take i)).length ≤ 10 * l.length):=by
  intro i
  have h1:=kpack_le k (l.take i) (fun x hx => HL64.out x (List.mem_of_mem_take hx))
  have h2:(l.take i).length ≤ l.length:=by rw [List.length_take];omega
  omega
 obtain ⟨n,HN⟩:∃ n,Hid (n = l.length):=⟨_,rfl⟩
 rw [← HN.out] at hlen hl HPL ⊢
 have HAT:=hid hat
 have HNL:=hid hl
 clear hat h hk hl
 go_enter Tryz.func152,Tryz.ntmps152
 go_wp2_with (go_at_call 118;refine (kind_Number _ _).mono ?_;rintro e w1 ⟨rfl,hb1⟩;rw [HK.out])
 have HB1:=hid hb1
 clear hb1
 go_loopw [6,8,9,10,16] (fun v6 _ _ _ v16 wr => ∃ i:Nat,i ≤ n ∧ v16 = .int .i64 i ∧ Hid (Below w.heap.size w wr ∧ Own wr w.heap.size v6 (kpack k (l.take i)))) (fun _ _ _ _ v16 _ => n - (intOf v16).toNat)
 case atStart => exact ⟨0,by omega,rfl,HB1.out,own_nil _ _⟩
 case round =>
  obtain ⟨i,hi,rfl,HB⟩:=hrel
  by_cases hlt:i < n
  ·
   have hat:=HAT.out
   have hxi:l[i]? = some (l[i]'(by rw [← HN.out];exact hlt)):=List.getElem?_eq_getElem _
   generalize l[i]'(by rw [← HN.out];exact hlt) = x at hxi
   obtain ⟨hx64,b,o,ha,cj⟩:=hat i x hxi
   clear hat
   have hix:=index_run1 Tryz.underlying88 size_u64 ha i hlt (cap:=cap)
   have cj':=below_keeps HB.out.1 _ _ cj
   have hbl:b < wr.heap.size:=World.block_lt_of_cell? wr _ cj'
   have HX:=hid hx64
   have HT:=hid (kpack_take k l i x hxi)
   have HTL:Hid ((kpack k (l.take i)).length + (kput k x).length ≤ 687194767360):=by
    have h1:=HPL.out (i + 1)
    rw [HT.out,List.length_append] at h1
    have:=HNL.out
    show _ ≤ _;omega
   have HU:Hid (wordV x = .int .u64 x):=rfl
   rw [HU.out] at cj'
   clear ha cj hx64 hxi
   go_wp2_with fail
   refine (scalar_Put HK.out x HX.out _).mono ?_
   rintro e w2 ⟨v2,rfl,hO2,hb2⟩
   have hO:=HB.out.2.below_of hb2
   have hB2:=HB.out.1.trans (hb2.mono HB.out.1.size)
   obtain ⟨v3,w3,hr3,hO3,hg3,-⟩:=own_append hO (hO2.bytes (by have:=HTL.out;omega)) (by have:=HTL.out;omega) hB2.size
   have HR3:=hid hr3
   have HO3:=hid hO3
   have HB3:=hid (own_grown hO hB2 hg3)
   clear hO2 hb2 hO hB2 hr3 hO3 hg3
   go_wp2_with (at_builtin;refine wpList_append_eq rfl _ _ _ rfl _ _ rfl rfl HR3.out ?_)
   go_roundw
   case rel => exact ⟨i + 1,hlt,by go_num,HB3.out,by rw [HT.out];exact HO3.out⟩
   case measure => simp [intOf];omega
  ·
   obtain rfl:i = n:=by omega
   have hO:=HB.out.2
   rw [List.take_of_length_le (by rw [HN.out];exact Nat.le_refl _)] at hO
   have HO:=hid hO
   clear hO
   go_wp2_with fail
   go_ret2
   exact ⟨_,rfl,HO.out,HB.out.1⟩
end Go.Proofs.YtfimpmennkfjcaaGreatDoor
namespace Go.Proofs.YtfimpmennkfjcaaGreatDoor
open Go.RowKit
theorem tag_or (n w:Nat) (h:w < 8) (hn:n ≤ 536870911):bits .or .u64 ((n:Int) * 8) (w:Int) = ((8 * n + w:Nat):Int):=by
 have:=u64_or_nat (n * 8) w (by omega) (by omega)
 rw [show ((n:Int) * 8) = ((n * 8:Nat):Int) by omega,this]
 have h2:=Nat.two_pow_add_eq_or_of_lt (i:=3) h n
 have h3:n * 8 ||| w = 8 * n + w:=by simpa [Nat.mul_comm] using h2.symm
 rw [h3]
set_option maxRecDepth 100000 in
set_option maxHeartbeats 4000000 in
theorem tag_word (n x:Nat) (hn:n ≤ 536870911) (hx:x < 8) (w:World) :
  Calls Tryz.prog 177 #[.agg #[.int .i64 n,.int .i64 x]] w fun e w' => e = .returned (.int .u64 ((8 * n + x:Nat):Int)) ∧ Below w.heap.size w w':=by
 have HO:=hid (tag_or n x hx hn)
 go_enter Tryz.func177,Tryz.ntmps177
 go_wp2_with fail
 go_ret
 exact ⟨ret1 (int_eq (by first | exact HO.out | (rw [← HO.out];congr 1;omega))),by (repeat (first | with_reducible exact Below.refl _ _ | with_reducible refine Below.setCell ?_ (by first | omega | (simp;omega) | (simp;done)) _ | with_reducible refine Below.alloc ?_ (by first | omega | (simp;omega) | (simp;done)) _ | with_reducible refine below_drewN ?_ _ | with_reducible refine Below.drew ?_))⟩
set_option maxRecDepth 100000 in
set_option maxHeartbeats 4000000 in
theorem tag_Put (n x:Nat) (h:tagOk n x = true) {w:World} {v:Value} {l:List UInt8} (hv:Bytes w v l) (hl:l.length ≤ 1099511627776) :
  Calls Tryz.prog 149 #[v,.agg #[.int .i64 n,.int .i64 x]] w fun e w' => ∃ v',e = .returned (.tuple #[v',.int .u8 0]) ∧ Own w' w.heap.size v' (l ++ vput (8 * n + x)) ∧ Below w.heap.size w w':=by
 have H:=hid h
 have hb:(1:Int) ≤ n ∧ (n:Int) ≤ 536870911 ∧ ((x:Int) = 0 ∨ (x:Int) = 1 ∨ (x:Int) = 2 ∨ (x:Int) = 5):=of_decide_eq_true h
 have HV:=hid hv
 have HLB:=hid hl
 obtain ⟨hlen,a,cap,rfl,-,-,-,-⟩:=hv.open
 clear h hv hl
 go_enter Tryz.func149,Tryz.ntmps149
 go_wp2_with (first | (go_at_call 135;refine (tag_Right n x (by omega) _).mono ?_;rintro e w1 ⟨rfl,hb1⟩;rw [H.out];have HB1:=hid (((Below.refl w.heap.size w).alloc (Nat.le_refl _) _).trans (hb1.mono (by simp)));have hk:=(Blk.new w [.int .i64 n,.int .i64 x] 163).below hb1;have c1:=hk.cell 0 _ rfl;have c2:=hk.cell 1 _ rfl;clear hb1 hk) | (go_at_call 177;refine (tag_word n x (by omega) (by omega) _).mono ?_;rintro e w2 ⟨rfl,hb2⟩;have HB2:=hid (HB1.out.trans (hb2.mono HB1.out.size));clear hb2) | (go_at_call 96;refine (varint_Put (HV.out.below HB2.out) HLB.out (8 * n + x) (by omega)).mono ?_;rintro e w3 ⟨v3,rfl,hO3,hb3⟩))
 go_ret2
 exact ⟨_,rfl,hO3.mono HB2.out.size,HB2.out.trans (hb3.mono HB2.out.size)⟩
set_option maxRecDepth 100000 in
set_option maxHeartbeats 4000000 in
theorem record_fits (x:Nat) {w:World} {v:Value} {l:List UInt8} (h:rfits x l = true) (hv:Bytes w v l) :
  Calls Tryz.prog 150 #[.int .i64 x,v] w fun e w' => e = .returned (.bool true) ∧ Below w.heap.size w w':=by
 obtain ⟨hlen,a,cap,rfl,-,-,-,-⟩:=hv.open
 have HV:=hid hv
 by_cases h0:x = 0
 ·
  subst h0
  have h1:(vread l).2.2 = 0 ∧ (vread l).2.1 = l.length:=by simpa [rfits] using h
  have HC:=hid h1.1
  have HN:=hid h1.2
  clear h h1 hv
  go_enter Tryz.func150,Tryz.ntmps150
  go_wp2_with (go_at_call 178;refine (varint_Skip HV.out).mono ?_;rintro e w' ⟨rfl,rfl⟩;rw [HC.out,HN.out])
  go_ret
  exact ⟨rfl,Below.refl _ _⟩
 by_cases h1:x = 1
 ·
  subst h1
  have h1:l.length = 8:=by simpa [rfits] using h
  rw [h1] at *
  clear h hv
  go_enter Tryz.func150,Tryz.ntmps150
  go_wp2_with fail
  go_ret
  exact ⟨rfl,Below.refl _ _⟩
 by_cases h5:x = 5
 ·
  subst h5
  have h1:l.length = 4:=by simpa [rfits] using h
  rw [h1] at *
  clear h hv
  go_enter Tryz.func150,Tryz.ntmps150
  go_wp2_with fail
  go_ret
  exact ⟨rfl,Below.refl _ _⟩
 ·
  have h2:x = 2:=by
   unfold rfits at h
   rw [if_neg (by omega),if_neg (by omega),if_neg (by omega)] at h
   have:=of_decide_eq_true h
   omega
  subst h2
  clear h hv h0 h1 h5
  go_enter Tryz.func150,Tryz.ntmps150
  go_wp2_with fail
  go_ret
  exact ⟨rfl,Below.refl _ _⟩
theorem rput_nat (n x:Nat) (t:List UInt8):rput n x t = vput (8 * n + x) ++ ((if x = 2 then vput t.length else []) ++ t):=by
 unfold rput
 rw [show (8 * (n:Int) + (x:Int)).toNat = 8 * n + x by omega]
 by_cases h:x = 2
 ·
  rw [if_pos h,if_pos (by omega)]
 ·
  rw [if_neg h,if_neg (by omega)]
set_option maxRecDepth 100000 in
set_option maxHeartbeats 4000000 in
theorem record_Put (n x:Nat) (h:tagOk n x = true) {w:World} {v vt:Value} {l t:List UInt8} (hv:Bytes w v l) (hl:l.length ≤ 549755813888) (hvt:Bytes w vt t) (ht:t.length ≤ 549755813888) (hf:rfits x t = true) :
  Calls Tryz.prog 117 #[v,.int .i64 n,.int .i64 x,vt] w fun e w' => ∃ v',e = .returned (.tuple #[v',.int .u8 0]) ∧ Own w' w.heap.size v' (l ++ rput n x t) ∧ Below w.heap.size w w':=by
 have H:=hid h
 have hb:(1:Int) ≤ n ∧ (n:Int) ≤ 536870911 ∧ ((x:Int) = 0 ∨ (x:Int) = 1 ∨ (x:Int) = 2 ∨ (x:Int) = 5):=of_decide_eq_true h
 have HV:=hid hv
 have HVT:=hid hvt
 have HF:=hid hf
 have HLB:=hid hl
 have HLT:=hid ht
 have HT10:Hid ((vput (8 * n + x)).length ≤ 10):=vput_le (by omega)
 have HPL:Hid ((vput t.length).length ≤ 10):=vput_le (by omega)
 have HQ:=hid (rput_nat n x t)
 obtain ⟨hlen,a,cap,rfl,-,-,-,-⟩:=hv.open
 obtain ⟨htlen,ta,tcap,rfl,-,-,-,-⟩:=hvt.open
 obtain ⟨tn,HTN⟩:∃ n,Hid (n = t.length):=⟨_,rfl⟩
 rw [← HTN.out] at HPL HQ htlen HVT HLT ht ⊢
 clear h hv hvt hf
 by_cases h2:x = 2
 ·
  subst h2
  go_enter Tryz.func117,Tryz.ntmps117
  go_wp2_with (first | (go_at_call 149;refine (tag_Put n 2 H.out HV.out (by have:=HLB.out;omega)).mono ?_;rintro e w1 ⟨v1,rfl,hO1,hb1⟩;have HO1:=hid hO1;have HB1:=hid hb1;clear hO1 hb1) | (go_at_call 150;refine (record_fits 2 HF.out (HVT.out.below HB1.out)).mono ?_;rintro e w2 ⟨rfl,hb2⟩;have HB2:=hid (HB1.out.trans (hb2.mono HB1.out.size));have HO2:=hid (HO1.out.below_of hb2);clear hb2))
  refine (varint_Put (HO2.out.bytes (by rw [List.length_append];have:=HT10.out;have:=HLB.out;omega)) (by rw [List.length_append];have:=HT10.out;have:=HLB.out;omega) tn (by omega)).mono ?_
  rintro e w3 ⟨v3,rfl,hO3,hb3⟩
  have hB3:=HB2.out.trans (hb3.mono HB2.out.size)
  have hO3':=hO3.mono HB2.out.size
  obtain ⟨v4,w4,hr4,hO4,hg4,-⟩:=own_append hO3' (HVT.out.below hB3) (by rw [List.length_append,List.length_append,← HTN.out];have:=HT10.out;have:=HPL.out;have:=HLB.out;omega) hB3.size
  have HR4:=hid hr4
  have HO4:=hid hO4
  have HB4:=hid (own_grown hO3' hB3 hg4)
  clear hO3 hb3 hB3 hO3' hr4 hO4 hg4
  go_wp2_with (at_builtin;refine wpList_append_eq rfl _ _ _ rfl _ _ rfl rfl HR4.out ?_)
  go_ret2
  refine ⟨_,rfl,?_,HB4.out⟩
  rw [HQ.out,if_pos trivial]
  have h4:=HO4.out
  simp only [List.append_assoc] at h4
  exact h4
 ·
  have HX:Hid (rput n x t = vput (8 * n + x) ++ t):=by rw [Hid,HQ.out,if_neg h2];rfl
  go_enter Tryz.func117,Tryz.ntmps117
  go_wp2_with (first | (go_at_call 149;refine (tag_Put n x H.out HV.out (by have:=HLB.out;omega)).mono ?_;rintro e w1 ⟨v1,rfl,hO1,hb1⟩;have HO1:=hid hO1;have HB1:=hid hb1;clear hO1 hb1) | (go_at_call 150;refine (record_fits x HF.out (HVT.out.below HB1.out)).mono ?_;rintro e w2 ⟨rfl,hb2⟩;have HB2:=hid (HB1.out.trans (hb2.mono HB1.out.size));have hO2:=HO1.out.below_of hb2;obtain ⟨v4,w4,hr4,hO4,hg4,-⟩:=own_append hO2 (HVT.out.below HB2.out) (by rw [List.length_append,← HTN.out];have:=HT10.out;have:=HLB.out;omega) HB2.out.size;have HR4:=hid hr4;have HO4:=hid hO4;have HB4:=hid (own_grown hO2 HB2.out hg4);clear hb2 hO2 hr4 hO4 hg4) | (at_builtin;refine wpList_append_eq rfl _ _ _ rfl _ _ rfl rfl HR4.out ?_))
  go_ret2
  refine ⟨_,rfl,?_,HB4.out⟩
  rw [HX.out,← List.append_assoc]
  exact HO4.out
end Go.Proofs.YtfimpmennkfjcaaGreatDoor
