/- Plain laws: of two right meanings' canonical bytes, one behind the other, and of the meanings joined (joins_check, joins_means, joins_size). Depths up to 64. -/
import Derived.Test.YtbdeclkccchnoaaGreatZ23
import Derived.Test.YtbdeclkccchnoaaGreatZ25
import Derived.Test.YtbdeclkccchnoaaGreatZ34
namespace Go.Proofs.YtbdeclkccchnoaaGreat
open Go.RowKit
theorem joins_valid {w : World} {s : List Mes} (hs : sright s = true) {a m : Nat} {v u : Value} {x y : M (a + 1)} (hx : MsgAt (a + 1) w v x) (hy : MsgAt (a + 1) w u y) (hwx : mwt (a + 1) x ≤ 1099511627776) (hwy : mwt (a + 1) y ≤ 1099511627776) (hm : m < s.length) (hrx : rightB s (a + 1) (m : Int) x = true) (hry : rightB s (a + 1) (m : Int) y = true) (hdx : depthM (a + 1) x ≤ 64) (hdy : depthM (a + 1) y ≤ 64) :
    (vmsg s 64 m (encM s (a + 1) (m : Int) x)).2 = 0 ∧ (vmsg s 64 m (encM s (a + 1) (m : Int) y)).2 = 0 ∧ (vmsg s 64 m (encM s (a + 1) (m : Int) x ++ encM s (a + 1) (m : Int) y)).2 = 0 := by
  have h1 := vmsg_enc hs a 64 m v x hx hwx hm hrx hdx
  have h2 := vmsg_enc hs a 64 m u y hy hwy hm hry hdy
  exact ⟨h1, h2, vmsg_app h1 h2⟩
theorem joins_check {w : World} {s : List Mes} (hs : sright s = true) {a m : Nat} {v u : Value} {x y : M (a + 1)} (hx : MsgAt (a + 1) w v x) (hy : MsgAt (a + 1) w u y) (hwx : mwt (a + 1) x ≤ 1099511627776) (hwy : mwt (a + 1) y ≤ 1099511627776) (hm : m < s.length) (hrx : rightB s (a + 1) (m : Int) x = true) (hry : rightB s (a + 1) (m : Int) y = true) (hdx : depthM (a + 1) x ≤ 64) (hdy : depthM (a + 1) y ≤ 64) :
    (vcheck s (m : Int) (encM s (a + 1) (m : Int) x ++ encM s (a + 1) (m : Int) y) 64).2 = 0 := by
  have h0 : argsCode s (m : Int) 64 = 0 := by
    unfold argsCode
    rw [if_neg (by rw [hs]; simp), if_neg (by omega)]
  unfold vcheck
  rw [if_neg (by omega), Int.toNat_natCast]
  exact (joins_valid hs hx hy hwx hwy hm hrx hry hdx hdy).2.2
theorem joins_means {w : World} {s : List Mes} (hs : sright s = true) {a m : Nat} {v u : Value} {x y : M (a + 1)} (hx : MsgAt (a + 1) w v x) (hy : MsgAt (a + 1) w u y) (hwx : mwt (a + 1) x ≤ 1099511627776) (hwy : mwt (a + 1) y ≤ 1099511627776) (hm : m < s.length) (hrx : rightB s (a + 1) (m : Int) x = true) (hry : rightB s (a + 1) (m : Int) y = true) (hdx : depthM (a + 1) x ≤ 64) (hdy : depthM (a + 1) y ≤ 64) :
    sameB (64 + 1) (a + 1) (tof s 64 m (encM s (a + 1) (m : Int) x ++ encM s (a + 1) (m : Int) y)) (joinM s (a + 1) (m : Int) x y) = true := by
  obtain ⟨h1, h2, -⟩ := joins_valid hs hx hy hwx hwy hm hrx hry hdx hdy
  rw [tof_join hs 64 m _ _ hm h1 h2]
  exact join_same s (64 + 1) (a + 1) (m : Int) _ _ _ _ (tof_enc hs a 64 m v x hx hwx hm hrx hdx) (tof_enc hs a 64 m u y hy hwy hm hry hdy)
theorem joins_size {s : List Mes} (hs : sright s = true) {d m : Nat} {x y : M d} (hm : m < s.length) (hrx : rightB s d (m : Int) x = true) (hry : rightB s d (m : Int) y = true) :
    mayCode s (m : Int) d (joinM s d (m : Int) x y) = 0 ∧ (encOut s (m : Int) d (joinM s d (m : Int) x y)).length ≤ (encM s d (m : Int) x).length + (encM s d (m : Int) y).length := by
  have hr := right_join s d (m : Int) x y hrx hry
  have hc : mayCode s (m : Int) d (joinM s d (m : Int) x y) = 0 := by
    unfold mayCode
    rw [if_neg (by rw [hs]; simp), if_neg (by omega), if_neg (by rw [hr]; simp)]
  refine ⟨hc, ?_⟩
  unfold encOut
  rw [if_pos hc]
  exact enc_join s d (m : Int) x y hrx hry
end Go.Proofs.YtbdeclkccchnoaaGreat
