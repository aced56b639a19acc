/- Plain laws: a right meaning's records, gathered by fields, are its values again (msgA_enc). No condition. -/
import Derived.Test.YtdpnmdkbdibkpaaGreatDoorZ24
namespace Go.Proofs.YtdpnmdkbdibkpaaGreatDoor
set_option maxRecDepth 100000
set_option maxHeartbeats 16000000
section
open Go.RowKit
def qOf {α:Type}(fs:List Fld)(v:Val α):Int:=zak fs v.num
structure zlI {α:Type}(F:Fld→Val α→Bool)(fs:List Fld)(vals:List (Val α)):Prop where
 at':∀ v∈vals,0≤qOf fs v∧qOf fs v<fs.length∧(fs.getD (qOf fs v).toNat .zero).number=v.num∧F (fs.getD (qOf fs v).toNat .zero) v=true
 rise:vals.Pairwise fun a b=>a.num<b.num
theorem zdv {α:Type}{F:Fld→Val α→Bool}{fs:List Fld}:∀ {vals:List (Val α)} {last:Int},zei F fs vals last=true→zlI F fs vals∧∀ v∈vals,last<v.num
 | [],_,_=>⟨⟨fun _ h=>by simp at h,List.Pairwise.nil⟩,fun _ h=>by simp at h⟩
 | v::r,last,h=>by
  unfold zei at h
  by_cases h0:zak fs v.num<0∨v.num≤last∨F (fs.getD (zak fs v.num).toNat .zero) v=false
  ·
   rw[if_pos h0] at h;cases h
  rw[if_neg h0] at h
  obtain⟨⟨g1,g2⟩,g3⟩:=zdv h
  have h1:0≤zak fs v.num:=by
   by_cases h:zak fs v.num<0
   ·
    exact absurd (.inl h) h0
   ·
    omega
  have h2:last<v.num:=by
   by_cases h:v.num≤last
   ·
    exact absurd (.inr (.inl h)) h0
   ·
    omega
  have h3:F (fs.getD (zak fs v.num).toNat .zero) v=true:=by
   cases e:F (fs.getD (zak fs v.num).toNat .zero) v with
   | true=>rfl
   | false=>exact absurd (.inr (.inr e)) h0
  refine⟨⟨fun w hw=>?_,List.pairwise_cons.2 ⟨g3,g2⟩⟩,fun w hw=>?_⟩
  ·
   rcases List.mem_cons.1 hw with rfl|hw
   ·
    rcases ze2 fs w.num with e|⟨k,hk,e,hn⟩
    ·
     omega
    ·
     refine⟨h1,?_,?_,h3⟩
     ·
      show zak fs w.num<_;omega
     ·
      show (fs.getD (zak fs w.num).toNat .zero).number=_
      rw[e,Int.toNat_natCast];exact hn
   ·
    exact g1 w hw
  ·
   rcases List.mem_cons.1 hw with rfl|hw
   ·
    exact h2
   ·
    have:=g3 w hw;omega
end
end Go.Proofs.YtdpnmdkbdibkpaaGreatDoor
