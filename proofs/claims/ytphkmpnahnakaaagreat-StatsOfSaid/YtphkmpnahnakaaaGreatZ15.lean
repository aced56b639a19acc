/- Parts of a proof: texts of the author, merged. No condition of their own. -/
import Derived.Test.YtphkmpnahnakaaaGreatZ05
import Derived.Test.YtphkmpnahnakaaaGreatZ13
import Derived.Test.YtphkmpnahnakaaaGreatZ14
import Derived.Deep.AppendLies
import Derived.Deep.RegionHeld3
import Derived.Deep.DeepCutAuto
namespace Go.Proofs.YtphkmpnahnakaaaGreat
open Go.RowKit Go.Shelf
attribute [local go_sem] Oper.semAt_some
structure Ev where
 i:Nat
 at':Nat
 ff:Nat
 tt:Nat
 c:Nat
end Go.Proofs.YtphkmpnahnakaaaGreat
namespace Go.Proofs.YtphkmpnahnakaaaGreat
open Go.RowKit
set_option maxRecDepth 100000 in
set_option maxHeartbeats 4000000 in
theorem law07_Few {w:World} {v:Value} {s:List Mes} (hS:SchemaAt w v s) :
  Calls Tryz.prog 5 #[v] w fun e w' => (∃ b,e = .returned (.bool b)) ∧ Below w.heap.size w w':=by
 obtain ⟨hlen,a,cap,rfl,hat⟩:=hS.open
 obtain ⟨n,HN⟩:∃ n,Hid (n = s.length):=⟨_,rfl⟩
 rw [← HN.out] at hat hlen ⊢
 have HAT:=hid hat
 clear hat hS
 go_enter Tryz.func5,Tryz.ntmps5
 go_wp2_with fail
 go_loopw [3,4,5] (fun v3 v4 _ wr => ∃ (z:Int) (i:Nat),v3 = .int .i64 z ∧ i ≤ n ∧ v4 = .int .i64 i ∧ Hid (Below w.heap.size w wr)) (fun _ v4 _ _ => n - (intOf v4).toNat)
 case atStart => exact ⟨0,0,rfl,by omega,rfl,Below.refl _ _⟩
 case round =>
  obtain ⟨z,i,rfl,hi,rfl,HB⟩:=hrel
  by_cases hlt:i < n
  ·
   have hat:=HAT.out
   obtain ⟨b,o,fv,ha,hnm,c0,c1,hfs⟩:=hat i hlt
   obtain ⟨fl,fa,fcap,rfl,hft⟩:=hfs.open
   clear hat hfs
   obtain ⟨fn,HFN⟩:∃ fn,Hid (fn = (s.getD i .zero).fields.length):=⟨_,rfl⟩
   obtain ⟨nm,HNM⟩:∃ nm,Hid (nm = (s.getD i .zero).name):=⟨_,rfl⟩
   rw [← HFN.out] at fl c1 hft
   rw [← HNM.out] at hnm c0
   have HFT:=hid hft
   clear hft
   have hkr:=below_keeps HB.out
   replace c0:=hkr _ _ c0
   replace c1:=hkr _ _ c1
   clear hkr
   have hix:=index_run Tryz.underlying23 size_mes ha i hlt (cap:=cap)
   have hbl:b < wr.heap.size:=World.block_lt_of_cell? wr _ c0
   clear ha
   go_wp2_with fail
   go_quiet (fail)
   go_wp2_with fail
   obtain ⟨wo,HWO⟩:∃ wo,Hid (wo = wr.drewN nq):=⟨_,rfl⟩
   rw [← HWO.out]
   have HBO:Hid (Below w.heap.size w wo):=by rw [HWO.out];exact below_drewN HB.out _
   replace c1:wo.cell? ⟨b,o + i * 2 + 1,none⟩ = some (.slice fa fn fcap):=by rw [HWO.out];exact c1
   clear c0 hbl
   have HC1:=hid c1
   clear c1
   go_loopw [3,5] (fun v3 v5 wq => ∃ (z:Int) (k:Nat),v3 = .int .i64 z ∧ k ≤ fn ∧ v5 = .int .i64 k ∧ Hid (Below wo.heap.size wo wq)) (fun _ v5 _ => fn - (intOf v5).toNat)
   case atStart => exact ⟨_,0,rfl,by omega,rfl,Below.refl _ _⟩
   case round =>
    obtain ⟨z2,k,rfl,hk,rfl,HBQ⟩:=hrel
    have c1:=below_keeps HBQ.out _ _ HC1.out
    have hbl:b < wr.heap.size:=World.block_lt_of_cell? wr _ c1
    by_cases hlk:k < fn
    ·
     have hft:=HFT.out
     obtain ⟨b2,o2,ha2,hok,g0,-⟩:=hft k hlk
     clear hft
     have hkr:=below_keeps (HBO.out.trans (HBQ.out.mono HBO.out.size))
     replace g0:=hkr _ _ g0
     clear hkr
     obtain ⟨fx,HFX⟩:∃ fx,Hid (fx = (s.getD i .zero).fields.getD k .zero):=⟨_,rfl⟩
     rw [← HFX.out] at hok g0
     have hsz:=hok.name
     have hix2:=index_run Tryz.underlying49 size_fld ha2 k hlk (cap:=fcap)
     have hbl2:b2 < wr.heap.size:=World.block_lt_of_cell? wr _ g0
     clear ha2 hok
     go_wp2_with fail
     go_roundw
     case rel => exact ⟨_,k + 1,rfl,hlk,by go_num,HBQ⟩
     case measure => simp [intOf];omega
    ·
     go_wp2_with fail
     go_roundw
     case rel => exact ⟨_,i + 1,rfl,hlt,by go_num,HBO.out.trans (HBQ.out.mono HBO.out.size)⟩
     case measure => simp [intOf];omega
  ·
   go_wp2_with fail
   go_ret
   exact ⟨⟨_,rfl⟩,HB.out⟩
end Go.Proofs.YtphkmpnahnakaaaGreat
namespace Go.Proofs.YtphkmpnahnakaaaGreat
open Go.RowKit Go.Shelf
def Rows (W:World) (base:Nat) (lv:Value) (ls:List (List UInt8)):Prop:=
 ∃ vs:List Value,W.ownsRow base 24 1 lv ls.length vs ∧ vs.length = ls.length ∧ ∀ j,j < ls.length → Own W base (vs.getD j undef) (ls.getD j [])
theorem Own.mono {W:World} {b b':Nat} {v:Value} {l:List UInt8} (h:Own W b v l) (hb:b' ≤ b):Own W b' v l:=
 ⟨h.1,h.2.imp id (fun ⟨g,cap,cur,hv,hg,r⟩ => ⟨g,cap,cur,hv,Nat.le_trans hb hg,r⟩)⟩
end Go.Proofs.YtphkmpnahnakaaaGreat
namespace Go.Proofs.YtphkmpnahnakaaaGreat
open Go.RowKit
theorem knum_cases {k:Int} (h:knumber k = true):k = 1 ∨ k = 2 ∨ k = 3 ∨ k = 4 ∨ k = 5 ∨ k = 6 ∨ k = 7 ∨ k = 8 ∨ k = 9 ∨ k = 10 ∨ k = 11 ∨ k = 12 ∨ k = 13 ∨ k = 14:=by
 have h':1 ≤ k ∧ k ≤ 14:=of_decide_eq_true h
 omega
set_option maxRecDepth 100000 in
set_option maxHeartbeats 4000000 in
theorem kind_Canon_32 (k:Int) (hk:k = 1 ∨ k = 8) (x:Nat) (w:World) :
  Calls Tryz.prog 116 #[.int .i64 k,.int .u64 x] w fun e w' => e = .returned (.tuple #[.int .u64 (kcanon k x),.int .u8 0]) ∧ Below w.heap.size w w':=by
 have HC:Hid (kcanon k x = w32 x):=by rw [Hid,kcanon,if_pos hk]
 have HK:Hid (knumber k = true):=by rcases hk with rfl | rfl <;> rfl
 rcases hk with rfl | rfl
 all_goals
  go_enter Tryz.func116,Tryz.ntmps116
  go_wp2_with (first | (go_at_call 84;refine (kind_Number _ _).mono ?_;rintro e w1 ⟨rfl,hb⟩;rw [HK.out]) | (go_at_call 138;refine (bits_Sign32 x _).mono ?_;rintro e w2 ⟨rfl,rfl⟩) | (go_at_call 137;refine (bits_Wide32 x _).mono ?_;rintro e w3 ⟨rfl,rfl⟩))
  go_ret2
  exact ⟨by rw [HC.out];rfl,hb⟩
set_option maxRecDepth 100000 in
set_option maxHeartbeats 4000000 in
theorem kind_Canon_7 (x:Nat) (w:World) :
  Calls Tryz.prog 116 #[.int .i64 7,.int .u64 x] w fun e w' => e = .returned (.tuple #[.int .u64 (kcanon 7 x),.int .u8 0]) ∧ Below w.heap.size w w':=by
 have HK:Hid (knumber 7 = true):=rfl
 by_cases h:0 < x
 ·
  have HC:Hid (kcanon 7 x = 1):=by simp [Hid,kcanon,h]
  go_enter Tryz.func116,Tryz.ntmps116
  go_wp2_with (go_at_call 84;refine (kind_Number _ _).mono ?_;rintro e w1 ⟨rfl,hb⟩;rw [HK.out])
  go_ret2
  exact ⟨by rw [HC.out];rfl,hb⟩
 ·
  have HC:Hid (kcanon 7 x = 0):=by simp [Hid,kcanon,h]
  obtain rfl:x = 0:=by omega
  go_enter Tryz.func116,Tryz.ntmps116
  go_wp2_with (go_at_call 84;refine (kind_Number _ _).mono ?_;rintro e w1 ⟨rfl,hb⟩;rw [HK.out])
  go_ret2
  exact ⟨by rw [HC.out];rfl,hb⟩
theorem field_form (s:ByteArray) (a b:Int) (w:World):(Instr.field 182 (.agg #[.string s,.int .i64 a,.int .i64 b]) 2).run Tryz.prog w = .ok (.int .i64 b) w:=by kernel_rfl
theorem forms_at {k:Int} {n:Nat} (h:kright k = true) (hn:kbits k = n):∀ (W:World) (r:Nat),MapIs W r intK formsL →
  (Instr.lookup 184 (.map (some r)) (.int .i64 k) false).run Tryz.prog W = .ok (.agg #[.string (kname k),.int .i64 (kwire k),.int .i64 n]) W:=by
 intro W r hm
 have hl:=map_lookup (P:=Tryz.prog) intK_ok Tryz.underlying184 form_zero hm k false
 rw [getOf_forms,if_pos h,hn] at hl
 exact hl
set_option maxRecDepth 100000 in
set_option maxHeartbeats 4000000 in
theorem kind_Canon_low (k:Int) (hk:k = 3 ∨ k = 5 ∨ k = 9 ∨ k = 10 ∨ k = 11) (x:Nat) (w:World) :
  Calls Tryz.prog 116 #[.int .i64 k,.int .u64 x] w fun e w' => e = .returned (.tuple #[.int .u64 (kcanon k x),.int .u8 0]) ∧ Below w.heap.size w w':=by
 have HC:Hid (kcanon k x = x % 4294967296):=by rw [Hid,kcanon,if_neg (by omega),if_neg (by omega),if_pos hk]
 have HK:Hid (knumber k = true):=by rcases hk with rfl | rfl | rfl | rfl | rfl <;> rfl
 have HL:=hid (forms_at (k:=k) (n:=32) (by rcases hk with rfl | rfl | rfl | rfl | rfl <;> rfl) (by rcases hk with rfl | rfl | rfl | rfl | rfl <;> rfl))
 rcases hk with rfl | rfl | rfl | rfl | rfl
 all_goals
  go_enter Tryz.func116,Tryz.ntmps116
  go_wp2_with (go_at_call 84;refine (kind_Number _ _).mono ?_;rintro e w1 ⟨rfl,hb⟩;rw [HK.out])
  refine (kind_forms _).mono ?_
  rintro e w2 ⟨r,hm,hr,hb2,rfl⟩
  have hl:=HL.out w2 r hm
  have hfd:=field_form
  have HB:Hid (Below w.heap.size w w2):=hb.trans (hb2.mono hb.size)
  clear hb hb2
  go_wp2_with (go_at_call 139;refine (bits_Low32 x _).mono ?_;rintro e w3 ⟨rfl,rfl⟩)
  go_ret2
  exact ⟨by rw [HC.out];first | rfl | go_num | (simp [go_sem];omega),HB.out⟩
set_option maxRecDepth 100000 in
set_option maxHeartbeats 4000000 in
theorem kind_Canon_whole (k:Int) (hk:k = 2 ∨ k = 4 ∨ k = 6 ∨ k = 12 ∨ k = 13 ∨ k = 14) (x:Nat) (w:World) :
  Calls Tryz.prog 116 #[.int .i64 k,.int .u64 x] w fun e w' => e = .returned (.tuple #[.int .u64 (kcanon k x),.int .u8 0]) ∧ Below w.heap.size w w':=by
 have HC:Hid (kcanon k x = x):=by rw [Hid,kcanon,if_neg (by omega),if_neg (by omega),if_neg (by omega)]
 have HK:Hid (knumber k = true):=by rcases hk with rfl | rfl | rfl | rfl | rfl | rfl <;> rfl
 have HL:=hid (forms_at (k:=k) (n:=64) (by rcases hk with rfl | rfl | rfl | rfl | rfl | rfl <;> rfl) (by rcases hk with rfl | rfl | rfl | rfl | rfl | rfl <;> rfl))
 rcases hk with rfl | rfl | rfl | rfl | rfl | rfl
 all_goals
  go_enter Tryz.func116,Tryz.ntmps116
  go_wp2_with (go_at_call 84;refine (kind_Number _ _).mono ?_;rintro e w1 ⟨rfl,hb⟩;rw [HK.out])
  refine (kind_forms _).mono ?_
  rintro e w2 ⟨r,hm,hr,hb2,rfl⟩
  have hl:=HL.out w2 r hm
  have hfd:=field_form
  have HB:Hid (Below w.heap.size w w2):=hb.trans (hb2.mono hb.size)
  clear hb hb2
  go_wp2_with fail
  go_ret2
  exact ⟨by rw [HC.out];rfl,HB.out⟩
theorem kind_Canon {k:Int} (hk:knumber k = true) (x:Nat) (w:World) :
  Calls Tryz.prog 116 #[.int .i64 k,.int .u64 x] w fun e w' => e = .returned (.tuple #[.int .u64 (kcanon k x),.int .u8 0]) ∧ Below w.heap.size w w':=by
 rcases knum_cases hk with h | h | h | h | h | h | h | h | h | h | h | h | h | h
 case inr.inr.inr.inr.inr.inr.inl => subst h;exact kind_Canon_7 x w
 all_goals first
  | exact kind_Canon_32 k (by omega) x w
  | exact kind_Canon_low k (by omega) x w
  | exact kind_Canon_whole k (by omega) x w
set_option maxRecDepth 100000 in
set_option maxHeartbeats 4000000 in
theorem ref06_Canon {k:Int} (hk:knumber k = true) (x:Nat) (w:World) :
  Calls Tryz.prog 63 #[.int .i64 k,.int .u64 x] w fun e w' => e = .returned (.int .u64 (kcanon k x)) ∧ w = w':=by
 have H32:Hid ((k = 1 ∨ k = 8) → kcanon k x = w32 x):=fun h => by rw [kcanon,if_pos h]
 have HLO:Hid ((k = 3 ∨ k = 5 ∨ k = 9 ∨ k = 10 ∨ k = 11) → kcanon k x = x % 4294967296):=fun h => by rw [kcanon,if_neg (by omega),if_neg (by omega),if_pos h]
 have HWH:Hid ((k = 2 ∨ k = 4 ∨ k = 6 ∨ k = 12 ∨ k = 13 ∨ k = 14) → kcanon k x = x):=fun h => by rw [kcanon,if_neg (by omega),if_neg (by omega),if_neg (by omega)]
 have H7:Hid (k = 7 → kcanon k x = if 0 < x then 1 else 0):=fun h => by rw [kcanon,if_neg (by omega),if_pos h]
 have hk':=knum_cases hk
 clear hk
 rcases hk' with rfl | rfl | rfl | rfl | rfl | rfl | rfl | rfl | rfl | rfl | rfl | rfl | rfl | rfl
 case inr.inr.inr.inr.inr.inr.inl =>
  by_cases h:0 < x
  ·
   have HC:Hid (kcanon 7 x = 1):=by rw [Hid,H7.out rfl,if_pos h]
   go_enter Tryz.func63,Tryz.ntmps63
   go_wp2_with fail
   go_ret
   exact ⟨by rw [HC.out];rfl,rfl⟩
  ·
   have HC:Hid (kcanon 7 x = 0):=by rw [Hid,H7.out rfl,if_neg h]
   go_enter Tryz.func63,Tryz.ntmps63
   go_wp2_with fail
   go_ret
   exact ⟨by rw [HC.out];rfl,rfl⟩
 all_goals
  go_enter Tryz.func63,Tryz.ntmps63
  go_wp2_with (first | (go_at_call 96;refine (ref01_Sign32 x _).mono ?_;rintro e w2 ⟨rfl,rfl⟩) | (go_at_call 95;refine (ref01_Wide x _).mono ?_;rintro e w3 ⟨rfl,rfl⟩))
  go_ret
  first
   | exact ⟨by rw [H32.out (by decide)];rfl,rfl⟩
   | exact ⟨by rw [HLO.out (by decide)];exact ret1 (int_eq (by omega)),rfl⟩
   | exact ⟨by rw [HWH.out (by decide)];rfl,rfl⟩
end Go.Proofs.YtphkmpnahnakaaaGreat
namespace Go.Proofs.YtphkmpnahnakaaaGreat
open Go.RowKit
theorem size_str (w:World):(sizeOf 9).run Tryz.prog w = .ok 1 w:=by kernel_rfl
theorem size_u64 (w:World):(sizeOf 98).run Tryz.prog w = .ok 1 w:=by kernel_rfl
end Go.Proofs.YtphkmpnahnakaaaGreat
namespace Go.Proofs.YtphkmpnahnakaaaGreat
open Go.RowKit
theorem little_byte (x k:Nat):(x:Int) / 2 ^ (8 * k) % 256 = ((b8 (x / 256 ^ k % 256)).toNat:Int):=by
 have e:(2:Int) ^ (8 * k) = ((256 ^ k:Nat):Int):=by
  rw [Int.pow_mul]
  simp
 rw [e]
 simp [b8]
set_option maxRecDepth 100000 in
set_option maxHeartbeats 4000000 in
theorem bits_Little_4 (x:Nat) (w:World) :
  Calls Tryz.prog 119 #[.int .u64 x,.int .i64 4] w fun e w' => ∃ v',e = .returned v' ∧ Own w' w.heap.size v' (little 4 x) ∧ Below w.heap.size w w':=by
 go_enter Tryz.func119,Tryz.ntmps119
 go_wp2_with fail
 go_loopw [5,6,10] (fun v5 _ v10 wr => ∃ k:Nat,k ≤ 4 ∧ v10 = .int .i64 k ∧ Hid (Below w.heap.size w wr ∧ Own wr w.heap.size v5 (little k x))) (fun _ _ v10 _ => 4 - (intOf v10).toNat)
 case atStart => exact ⟨0,by omega,rfl,Below.refl _ _,own_nil _ _⟩
 case round =>
  obtain ⟨k,hk,rfl,HB⟩:=hrel
  by_cases hlt:k < 4
  ·
   have hB:=bytes_one wr 5 (b8 (x / 256 ^ k % 256)) ((x:Int) / 2 ^ (8 * k) % 256) (little_byte x k)
   have hlen:=little_len k x
   obtain ⟨v',w',hr,hO',hg,-⟩:=own_append (w:=wr.alloc (.cells #[.int .u8 ((x:Int) / 2 ^ (8 * k) % 256)] 5)) (World.ownsRow.alloc HB.out.2 _) hB (by rw [hlen];simp;omega) (by have:=HB.out.1.size;simp;omega)
   have HR:=hid hr
   have HO2:=hid hO'
   have hg2:=own_grown (w:=wr.alloc (.cells #[.int .u8 ((x:Int) / 2 ^ (8 * k) % 256)] 5)) (World.ownsRow.alloc HB.out.2 _) (HB.out.1.alloc HB.out.1.size _) hg
   have HG2:=hid hg2
   clear hB hlen hr hO' hg hg2
   go_wp2_with (at_builtin;refine wpList_append_eq rfl _ _ _ rfl _ _ rfl rfl HR.out ?_)
   go_roundw
   case rel => exact ⟨k + 1,hlt,by go_num,HG2.out,by rw [little_succ];exact HO2.out⟩
   case measure => simp [intOf];omega
  ·
   obtain rfl:k = 4:=by omega
   go_wp2_with fail
   go_ret
   exact ⟨_,rfl,HB.out.2,HB.out.1⟩
set_option maxRecDepth 100000 in
set_option maxHeartbeats 4000000 in
theorem ref01_Little_4 (x:Nat) (hx:x < 2 ^ 64) (w:World) :
  Calls Tryz.prog 94 #[.int .u64 x,.int .i64 4] w fun e w' => ∃ v',e = .returned v' ∧ Own w' w.heap.size v' (little 4 x) ∧ Below w.heap.size w w':=by
 have HX:=hid hx
 clear hx
 go_enter Tryz.func94,Tryz.ntmps94
 go_wp2_with fail
 go_loopw [0,5,6] (fun v0 v5 v6 wr => ∃ (k y:Nat),k ≤ 4 ∧ v6 = .int .i64 k ∧ v0 = .int .u64 y ∧ Hid (y = x / 256 ^ k) ∧ Hid (Below w.heap.size w wr ∧ Own wr w.heap.size v5 (little k x))) (fun _ _ v6 _ => 4 - (intOf v6).toNat)
 case atStart => exact ⟨0,x,by omega,rfl,rfl,by simp [Hid],Below.refl _ _,own_nil _ _⟩
 case round =>
  obtain ⟨k,y,hk,rfl,rfl,HY,HB⟩:=hrel
  have hyx:y ≤ x:=by rw [HY.out];exact Nat.div_le_self _ _
  have hy64:y < 2 ^ 64:=Nat.lt_of_le_of_lt hyx HX.out
  clear hyx
  by_cases hlt:k < 4
  ·
   have hB:=bytes_one wr 5 (b8 (y % 256)) ((y:Int) % 256) (by simp [b8])
   have hlen:=little_len k x
   obtain ⟨v',w',hr,hO',hg,-⟩:=own_append (w:=wr.alloc (.cells #[.int .u8 ((y:Int) % 256)] 5)) (World.ownsRow.alloc HB.out.2 _) hB (by rw [hlen];simp;omega) (by have:=HB.out.1.size;simp;omega)
   have HR:=hid hr
   have HO2:=hid hO'
   have hg2:=own_grown (w:=wr.alloc (.cells #[.int .u8 ((y:Int) % 256)] 5)) (World.ownsRow.alloc HB.out.2 _) (HB.out.1.alloc HB.out.1.size _) hg
   have HG2:=hid hg2
   have HW:Hid (IntKind.u64.wrap ((y:Int) / 256) = ((y / 256:Nat):Int)):=by rw [Hid,IntWalk.u64_in _ (by omega)];omega
   clear hB hlen hr hO' hg hg2
   go_wp2_with (at_builtin;refine wpList_append_eq rfl _ _ _ rfl _ _ rfl rfl HR.out ?_)
   go_roundw
   case rel => exact ⟨k + 1,y / 256,hlt,by go_num,by first | rfl | go_num | (rw [HW.out]),by rw [Hid,HY.out,Nat.div_div_eq_div_mul,← Nat.pow_succ],HG2.out,by rw [little_succ,← HY.out];exact HO2.out⟩
   case measure => simp [intOf];omega
  ·
   obtain rfl:k = 4:=by omega
   go_wp2_with fail
   go_ret
   exact ⟨_,rfl,HB.out.2,HB.out.1⟩
set_option maxRecDepth 100000 in
set_option maxHeartbeats 4000000 in
theorem bits_Little_8 (x:Nat) (w:World) :
  Calls Tryz.prog 119 #[.int .u64 x,.int .i64 8] w fun e w' => ∃ v',e = .returned v' ∧ Own w' w.heap.size v' (little 8 x) ∧ Below w.heap.size w w':=by
 go_enter Tryz.func119,Tryz.ntmps119
 go_wp2_with fail
 go_loopw [5,6,10] (fun v5 _ v10 wr => ∃ k:Nat,k ≤ 8 ∧ v10 = .int .i64 k ∧ Hid (Below w.heap.size w wr ∧ Own wr w.heap.size v5 (little k x))) (fun _ _ v10 _ => 8 - (intOf v10).toNat)
 case atStart => exact ⟨0,by omega,rfl,Below.refl _ _,own_nil _ _⟩
 case round =>
  obtain ⟨k,hk,rfl,HB⟩:=hrel
  by_cases hlt:k < 8
  ·
   have hB:=bytes_one wr 5 (b8 (x / 256 ^ k % 256)) ((x:Int) / 2 ^ (8 * k) % 256) (little_byte x k)
   have hlen:=little_len k x
   obtain ⟨v',w',hr,hO',hg,-⟩:=own_append (w:=wr.alloc (.cells #[.int .u8 ((x:Int) / 2 ^ (8 * k) % 256)] 5)) (World.ownsRow.alloc HB.out.2 _) hB (by rw [hlen];simp;omega) (by have:=HB.out.1.size;simp;omega)
   have HR:=hid hr
   have HO2:=hid hO'
   have hg2:=own_grown (w:=wr.alloc (.cells #[.int .u8 ((x:Int) / 2 ^ (8 * k) % 256)] 5)) (World.ownsRow.alloc HB.out.2 _) (HB.out.1.alloc HB.out.1.size _) hg
   have HG2:=hid hg2
   clear hB hlen hr hO' hg hg2
   go_wp2_with (at_builtin;refine wpList_append_eq rfl _ _ _ rfl _ _ rfl rfl HR.out ?_)
   go_roundw
   case rel => exact ⟨k + 1,hlt,by go_num,HG2.out,by rw [little_succ];exact HO2.out⟩
   case measure => simp [intOf];omega
  ·
   obtain rfl:k = 8:=by omega
   go_wp2_with fail
   go_ret
   exact ⟨_,rfl,HB.out.2,HB.out.1⟩
set_option maxRecDepth 100000 in
set_option maxHeartbeats 4000000 in
theorem ref01_Little_8 (x:Nat) (hx:x < 2 ^ 64) (w:World) :
  Calls Tryz.prog 94 #[.int .u64 x,.int .i64 8] w fun e w' => ∃ v',e = .returned v' ∧ Own w' w.heap.size v' (little 8 x) ∧ Below w.heap.size w w':=by
 have HX:=hid hx
 clear hx
 go_enter Tryz.func94,Tryz.ntmps94
 go_wp2_with fail
 go_loopw [0,5,6] (fun v0 v5 v6 wr => ∃ (k y:Nat),k ≤ 8 ∧ v6 = .int .i64 k ∧ v0 = .int .u64 y ∧ Hid (y = x / 256 ^ k) ∧ Hid (Below w.heap.size w wr ∧ Own wr w.heap.size v5 (little k x))) (fun _ _ v6 _ => 8 - (intOf v6).toNat)
 case atStart => exact ⟨0,x,by omega,rfl,rfl,by simp [Hid],Below.refl _ _,own_nil _ _⟩
 case round =>
  obtain ⟨k,y,hk,rfl,rfl,HY,HB⟩:=hrel
  have hyx:y ≤ x:=by rw [HY.out];exact Nat.div_le_self _ _
  have hy64:y < 2 ^ 64:=Nat.lt_of_le_of_lt hyx HX.out
  clear hyx
  by_cases hlt:k < 8
  ·
   have hB:=bytes_one wr 5 (b8 (y % 256)) ((y:Int) % 256) (by simp [b8])
   have hlen:=little_len k x
   obtain ⟨v',w',hr,hO',hg,-⟩:=own_append (w:=wr.alloc (.cells #[.int .u8 ((y:Int) % 256)] 5)) (World.ownsRow.alloc HB.out.2 _) hB (by rw [hlen];simp;omega) (by have:=HB.out.1.size;simp;omega)
   have HR:=hid hr
   have HO2:=hid hO'
   have hg2:=own_grown (w:=wr.alloc (.cells #[.int .u8 ((y:Int) % 256)] 5)) (World.ownsRow.alloc HB.out.2 _) (HB.out.1.alloc HB.out.1.size _) hg
   have HG2:=hid hg2
   have HW:Hid (IntKind.u64.wrap ((y:Int) / 256) = ((y / 256:Nat):Int)):=by rw [Hid,IntWalk.u64_in _ (by omega)];omega
   clear hB hlen hr hO' hg hg2
   go_wp2_with (at_builtin;refine wpList_append_eq rfl _ _ _ rfl _ _ rfl rfl HR.out ?_)
   go_roundw
   case rel => exact ⟨k + 1,y / 256,hlt,by go_num,by first | rfl | go_num | (rw [HW.out]),by rw [Hid,HY.out,Nat.div_div_eq_div_mul,← Nat.pow_succ],HG2.out,by rw [little_succ,← HY.out];exact HO2.out⟩
   case measure => simp [intOf];omega
  ·
   obtain rfl:k = 8:=by omega
   go_wp2_with fail
   go_ret
   exact ⟨_,rfl,HB.out.2,HB.out.1⟩
set_option maxRecDepth 100000 in
set_option maxHeartbeats 4000000 in
theorem scalar_wide (k:Int) (hk:k = 0 ∨ k = 1 ∨ k = 5) (w:World) :
  Calls Tryz.prog 115 #[.int .i64 k] w fun e w' => e = .returned (.int .i64 (if k = 1 then 8 else if k = 5 then 4 else 0)) ∧ w = w':=by
 rcases hk with rfl | rfl | rfl
 all_goals
  go_enter Tryz.func115,Tryz.ntmps115
  go_wp2_with fail
  go_ret
  exact ⟨rfl,rfl⟩
theorem kput_cases {k:Int} (hk:knumber k = true):(kwire k = 1 ∧ ∀ x,kput k x = little 8 (kcanon k x)) ∨ (kwire k = 5 ∧ ∀ x,kput k x = little 4 (kcanon k x)) ∨ (kwire k = 0 ∧ ∀ x,kput k x = vput (kcanon k x)):=by
 have hk':1 ≤ k ∧ k ≤ 14:=of_decide_eq_true hk
 unfold kwire kput
 rw [if_neg (by omega),if_neg (by omega)]
 by_cases h1:12 ≤ k
 ·
  exact .inl ⟨by rw [if_pos h1],fun x => by rw [if_pos h1]⟩
 ·
  by_cases h2:9 ≤ k
  ·
   exact .inr (.inl ⟨by rw [if_neg h1,if_pos h2],fun x => by rw [if_neg h1,if_pos h2]⟩)
  ·
   exact .inr (.inr ⟨by rw [if_neg h1,if_neg h2],fun x => by rw [if_neg h1,if_neg h2]⟩)
set_option maxRecDepth 100000 in
set_option maxHeartbeats 4000000 in
theorem scalar_Put {k:Int} (hk:knumber k = true) (x:Nat) (hx:x < 2 ^ 64) (w:World) :
  Calls Tryz.prog 87 #[.int .i64 k,.int .u64 x] w fun e w' => ∃ v',e = .returned (.tuple #[v',.int .u8 0]) ∧ Own w' w.heap.size v' (kput k x) ∧ Below w.heap.size w w':=by
 have HK:=hid hk
 have hkr:kright k = true:=by
  have h:1 ≤ k ∧ k ≤ 14:=of_decide_eq_true hk
  simp [kright];omega
 have HKR:=hid hkr
 have HC64:=hid (kcanon_lt k hx)
 obtain ⟨y,HY⟩:∃ y,Hid (y = kcanon k x):=⟨_,rfl⟩
 rw [← HY.out] at HC64
 have HYL:Hid (y ≤ 18446744073709551615):=by have:=HC64.out;show _ ≤ _;omega
 have hc:=kput_cases hk
 clear hk hkr hx
 rcases hc with ⟨h1,h2⟩ | ⟨h1,h2⟩ | ⟨h1,h2⟩
 all_goals
  have H1:=hid h1
  have H2:=hid (h2 x)
  rw [← HY.out] at H2
  clear h1 h2
 ·
  go_enter Tryz.func87,Tryz.ntmps87
  go_wp2_with (first | (go_at_call 116;refine (kind_Canon HK.out _ _).mono ?_;rintro e w1 ⟨rfl,hb1⟩;rw [← HY.out]) | (go_at_call 81;refine (kind_Wire _ _).mono ?_;rintro e w2 ⟨rfl,hb2⟩;rw [HKR.out,H1.out]) | (go_at_call 115;refine (scalar_wide 1 (by decide) _).mono ?_;rintro e w3 ⟨rfl,rfl⟩) | (go_at_call 119;refine (bits_Little_8 y _).mono ?_;rintro e w4 ⟨v4,rfl,hO,hb4⟩))
  have hb:=hb1.trans (hb2.mono hb1.size)
  go_ret2
  exact ⟨_,rfl,by rw [H2.out];exact hO.mono hb.size,hb.trans (hb4.mono hb.size)⟩
 ·
  go_enter Tryz.func87,Tryz.ntmps87
  go_wp2_with (first | (go_at_call 116;refine (kind_Canon HK.out _ _).mono ?_;rintro e w1 ⟨rfl,hb1⟩;rw [← HY.out]) | (go_at_call 81;refine (kind_Wire _ _).mono ?_;rintro e w2 ⟨rfl,hb2⟩;rw [HKR.out,H1.out]) | (go_at_call 115;refine (scalar_wide 5 (by decide) _).mono ?_;rintro e w3 ⟨rfl,rfl⟩) | (go_at_call 119;refine (bits_Little_4 y _).mono ?_;rintro e w4 ⟨v4,rfl,hO,hb4⟩))
  have hb:=hb1.trans (hb2.mono hb1.size)
  go_ret2
  exact ⟨_,rfl,by rw [H2.out];exact hO.mono hb.size,hb.trans (hb4.mono hb.size)⟩
 ·
  go_enter Tryz.func87,Tryz.ntmps87
  go_wp2_with (first | (go_at_call 116;refine (kind_Canon HK.out _ _).mono ?_;rintro e w1 ⟨rfl,hb1⟩;rw [← HY.out]) | (go_at_call 81;refine (kind_Wire _ _).mono ?_;rintro e w2 ⟨rfl,hb2⟩;rw [HKR.out,H1.out]) | (go_at_call 115;refine (scalar_wide 0 (by decide) _).mono ?_;rintro e w3 ⟨rfl,rfl⟩) | (go_at_call 112;refine (varint_Put (l:=[]) (bytes_nil _) (by simp) y HC64.out).mono ?_;rintro e w4 ⟨v4,rfl,hO,hb4⟩))
  have hb:=hb1.trans (hb2.mono hb1.size)
  go_ret2
  exact ⟨_,rfl,by rw [H2.out];exact hO.mono hb.size,hb.trans (hb4.mono hb.size)⟩
set_option maxRecDepth 100000 in
set_option maxHeartbeats 4000000 in
theorem ref08_Put {k:Int} (hk:knumber k = true) (x:Nat) (hx:x < 2 ^ 64) (w:World) :
  Calls Tryz.prog 60 #[.int .i64 k,.int .u64 x] w fun e w' => ∃ v',e = .returned v' ∧ Own w' w.heap.size v' (kput k x) ∧ Below w.heap.size w w':=by
 have HK:=hid hk
 have HC64:=hid (kcanon_lt k hx)
 obtain ⟨y,HY⟩:∃ y,Hid (y = kcanon k x):=⟨_,rfl⟩
 rw [← HY.out] at HC64
 have hc:Hid (kput k x = if 12 ≤ k then little 8 y else if 9 ≤ k then little 4 y else vput y):=by rw [Hid,HY.out];rfl
 clear hk hx
 by_cases h1:12 ≤ k
 ·
  have H2:Hid (kput k x = little 8 y):=by rw [Hid,hc.out,if_pos h1]
  go_enter Tryz.func60,Tryz.ntmps60
  go_wp2_with (first | (go_at_call 63;refine (ref06_Canon HK.out _ _).mono ?_;rintro e w1 ⟨rfl,rfl⟩;rw [← HY.out]) | (go_at_call 94;refine (ref01_Little_8 y HC64.out _).mono ?_;rintro e w4 ⟨v4,rfl,hO,hb4⟩))
  go_ret
  exact ⟨_,rfl,by rw [H2.out];exact hO,hb4⟩
 ·
  by_cases h2:9 ≤ k
  ·
   have H2:Hid (kput k x = little 4 y):=by rw [Hid,hc.out,if_neg h1,if_pos h2]
   go_enter Tryz.func60,Tryz.ntmps60
   go_wp2_with (first | (go_at_call 63;refine (ref06_Canon HK.out _ _).mono ?_;rintro e w1 ⟨rfl,rfl⟩;rw [← HY.out]) | (go_at_call 94;refine (ref01_Little_4 y HC64.out _).mono ?_;rintro e w4 ⟨v4,rfl,hO,hb4⟩))
   go_ret
   exact ⟨_,rfl,by rw [H2.out];exact hO,hb4⟩
  ·
   have H2:Hid (kput k x = vput y):=by rw [Hid,hc.out,if_neg h1,if_neg h2]
   go_enter Tryz.func60,Tryz.ntmps60
   go_wp2_with (first | (go_at_call 63;refine (ref06_Canon HK.out _ _).mono ?_;rintro e w1 ⟨rfl,rfl⟩;rw [← HY.out]) | (go_at_call 93;refine (ref02_Put y _ HC64.out).mono ?_;rintro e w4 ⟨v4,rfl,hO,hb4⟩))
   go_ret
   exact ⟨_,rfl,by rw [H2.out];exact hO,hb4⟩
set_option maxRecDepth 100000 in
set_option maxHeartbeats 4000000 in
theorem run_Pack {k:Int} (hk:knumber k = true) {w:World} {v:Value} {l:List Nat} (h:WordsAt w v l) (hl:l.length ≤ 68719476736) :
  Calls Tryz.prog 114 #[.int .i64 k,v] w fun e w' => ∃ v',e = .returned (.tuple #[v',.int .u8 0]) ∧ Own w' w.heap.size v' (kpack k l) ∧ Below w.heap.size w w':=by
 have HK:=hid hk
 have HL64:Hid (∀ x ∈ l,x < 2 ^ 64):=h.2
 obtain ⟨hlen,a,cap,rfl,-,hat⟩:=h.open
 have HPL:Hid (∀ i,(kpack k (l.take i)).length ≤ 10 * l.length):=by
  intro i
  have h1:=kpack_le k (l.take i) (fun x hx => HL64.out x (List.mem_of_mem_take hx))
  have h2:(l.take i).length ≤ l.length:=by rw [List.length_take];omega
  omega
 obtain ⟨n,HN⟩:∃ n,Hid (n = l.length):=⟨_,rfl⟩
 rw [← HN.out] at hlen hl HPL ⊢
 have HAT:=hid hat
 have HNL:=hid hl
 clear hat h hk hl
 go_enter Tryz.func114,Tryz.ntmps114
 go_wp2_with (go_at_call 84;refine (kind_Number _ _).mono ?_;rintro e w1 ⟨rfl,hb1⟩;rw [HK.out])
 have HB1:=hid hb1
 clear hb1
 go_loopw [6,8,9,10,16] (fun v6 _ _ _ v16 wr => ∃ i:Nat,i ≤ n ∧ v16 = .int .i64 i ∧ Hid (Below w.heap.size w wr ∧ Own wr w.heap.size v6 (kpack k (l.take i)))) (fun _ _ _ _ v16 _ => n - (intOf v16).toNat)
 case atStart => exact ⟨0,by omega,rfl,HB1.out,own_nil _ _⟩
 case round =>
  obtain ⟨i,hi,rfl,HB⟩:=hrel
  by_cases hlt:i < n
  ·
   have hat:=HAT.out
   have hxi:l[i]? = some (l[i]'(by rw [← HN.out];exact hlt)):=List.getElem?_eq_getElem _
   generalize l[i]'(by rw [← HN.out];exact hlt) = x at hxi
   obtain ⟨hx64,b,o,ha,cj⟩:=hat i x hxi
   clear hat
   have hix:=index_run1 Tryz.underlying90 size_u64 ha i hlt (cap:=cap)
   have cj':=below_keeps HB.out.1 _ _ cj
   have hbl:b < wr.heap.size:=World.block_lt_of_cell? wr _ cj'
   have HX:=hid hx64
   have HT:=hid (kpack_take k l i x hxi)
   have HTL:Hid ((kpack k (l.take i)).length + (kput k x).length ≤ 687194767360):=by
    have h1:=HPL.out (i + 1)
    rw [HT.out,List.length_append] at h1
    have:=HNL.out
    show _ ≤ _;omega
   have HU:Hid (wordV x = .int .u64 x):=rfl
   rw [HU.out] at cj'
   clear ha cj hx64 hxi
   go_wp2_with fail
   refine (scalar_Put HK.out x HX.out _).mono ?_
   rintro e w2 ⟨v2,rfl,hO2,hb2⟩
   have hO:=HB.out.2.below_of hb2
   have hB2:=HB.out.1.trans (hb2.mono HB.out.1.size)
   obtain ⟨v3,w3,hr3,hO3,hg3,-⟩:=own_append hO (hO2.bytes (by have:=HTL.out;omega)) (by have:=HTL.out;omega) hB2.size
   have HR3:=hid hr3
   have HO3:=hid hO3
   have HB3:=hid (own_grown hO hB2 hg3)
   clear hO2 hb2 hO hB2 hr3 hO3 hg3
   go_wp2_with (at_builtin;refine wpList_append_eq rfl _ _ _ rfl _ _ rfl rfl HR3.out ?_)
   go_roundw
   case rel => exact ⟨i + 1,hlt,by go_num,HB3.out,by rw [HT.out];exact HO3.out⟩
   case measure => simp [intOf];omega
  ·
   obtain rfl:i = n:=by omega
   have hO:=HB.out.2
   rw [List.take_of_length_le (by rw [HN.out];exact Nat.le_refl _)] at hO
   have HO:=hid hO
   clear hO
   go_wp2_with fail
   go_ret2
   exact ⟨_,rfl,HO.out,HB.out.1⟩
set_option maxRecDepth 100000 in
set_option maxHeartbeats 4000000 in
theorem ref09_Pack {k:Int} (hk:knumber k = true) {w:World} {v:Value} {l:List Nat} (h:WordsAt w v l) (hl:l.length ≤ 68719476736) :
  Calls Tryz.prog 59 #[.int .i64 k,v] w fun e w' => ∃ v',e = .returned v' ∧ Own w' w.heap.size v' (kpack k l) ∧ Below w.heap.size w w':=by
 have HK:=hid hk
 have HL64:Hid (∀ x ∈ l,x < 2 ^ 64):=h.2
 obtain ⟨hlen,a,cap,rfl,-,hat⟩:=h.open
 have HPL:Hid (∀ i,(kpack k (l.take i)).length ≤ 10 * l.length):=by
  intro i
  have h1:=kpack_le k (l.take i) (fun x hx => HL64.out x (List.mem_of_mem_take hx))
  have h2:(l.take i).length ≤ l.length:=by rw [List.length_take];omega
  omega
 obtain ⟨n,HN⟩:∃ n,Hid (n = l.length):=⟨_,rfl⟩
 rw [← HN.out] at hlen hl HPL ⊢
 have HAT:=hid hat
 have HNL:=hid hl
 clear hat h hk hl
 go_enter Tryz.func59,Tryz.ntmps59
 go_wp2_with fail
 go_loopw [5,6] (fun v5 v6 wr => ∃ i:Nat,i ≤ n ∧ v6 = .int .i64 i ∧ Hid (Below w.heap.size w wr ∧ Own wr w.heap.size v5 (kpack k (l.take i)))) (fun _ v6 _ => n - (intOf v6).toNat)
 case atStart => exact ⟨0,by omega,rfl,Below.refl _ _,own_nil _ _⟩
 case round =>
  obtain ⟨i,hi,rfl,HB⟩:=hrel
  by_cases hlt:i < n
  ·
   have hat:=HAT.out
   have hxi:l[i]? = some (l[i]'(by rw [← HN.out];exact hlt)):=List.getElem?_eq_getElem _
   generalize l[i]'(by rw [← HN.out];exact hlt) = x at hxi
   obtain ⟨hx64,b,o,ha,cj⟩:=hat i x hxi
   clear hat
   have hix:=index_run1 Tryz.underlying90 size_u64 ha i hlt (cap:=cap)
   have cj':=below_keeps HB.out.1 _ _ cj
   have hbl:b < wr.heap.size:=World.block_lt_of_cell? wr _ cj'
   have HX:=hid hx64
   have HT:=hid (kpack_take k l i x hxi)
   have HTL:Hid ((kpack k (l.take i)).length + (kput k x).length ≤ 687194767360):=by
    have h1:=HPL.out (i + 1)
    rw [HT.out,List.length_append] at h1
    have:=HNL.out
    show _ ≤ _;omega
   have HU:Hid (wordV x = .int .u64 x):=rfl
   rw [HU.out] at cj'
   clear ha cj hx64 hxi
   go_wp2_with fail
   refine (ref08_Put HK.out x HX.out _).mono ?_
   rintro e w2 ⟨v2,rfl,hO2,hb2⟩
   have hO:=HB.out.2.below_of hb2
   have hB2:=HB.out.1.trans (hb2.mono HB.out.1.size)
   obtain ⟨v3,w3,hr3,hO3,hg3,-⟩:=own_append hO (hO2.bytes (by have:=HTL.out;omega)) (by have:=HTL.out;omega) hB2.size
   have HR3:=hid hr3
   have HO3:=hid hO3
   have HB3:=hid (own_grown hO hB2 hg3)
   clear hO2 hb2 hO hB2 hr3 hO3 hg3
   go_wp2_with (at_builtin;refine wpList_append_eq rfl _ _ _ rfl _ _ rfl rfl HR3.out ?_)
   go_roundw
   case rel => exact ⟨i + 1,hlt,by go_num,HB3.out,by rw [HT.out];exact HO3.out⟩
   case measure => simp [intOf];omega
  ·
   obtain rfl:i = n:=by omega
   have hO:=HB.out.2
   rw [List.take_of_length_le (by rw [HN.out];exact Nat.le_refl _)] at hO
   have HO:=hid hO
   clear hO
   go_wp2_with fail
   go_ret
   exact ⟨_,rfl,HO.out,HB.out.1⟩
end Go.Proofs.YtphkmpnahnakaaaGreat
