/- The walk of SpacemapPlays. -/
import Derived.Test.YtieegbejpabpiaaPlay2
namespace Go.Proofs.Ytieegbejpabpiaa
open Go.RowKit

set_option maxRecDepth 100000 in
set_option maxHeartbeats 4000000 in
theorem plays_walk (A : Option Addr) (m c : Nat) (l : List Int) (W : World) (hmc : m ≤ c) (hcm : c ≤ maxLen) (hr : Reads W W.heap.size 1 A m (I l)) :
    Calls Try.prog 4 #[.slice A m c] W (Ret (.bool true) W) := by
  have HN := Lib.hid (srcNew_any A m c l W hmc hcm hr)
  clear hr hmc hcm
  go_enter Try.func4, Try.ntmps4
  go_wp2_with fail
  refine HN.out.mono ?_
  rintro e w1 ⟨rfl, hs1, hb1⟩
  have HS1 := Lib.hid hs1
  have HB1 := Lib.hid hb1
  clear hs1 hb1 HN
  go_wp2_with fail
  refine (srcRange_any W.heap.size W.heap.size 0 30 _ HS1.out (by omega) (by omega) (by omega)).mono ?_
  rintro e w2 ⟨x, ⟨hx1, hx2⟩, rfl, hs2, ho2⟩
  obtain ⟨x, rfl⟩ := Int.eq_ofNat_of_zero_le hx1
  have HB2 := Lib.hid (HB1.out.trans (ho2.below HS1.out.lt.2.2 (fun k e => by rw [e]; exact Nat.le_refl _)))
  have HP := Lib.hid (play_any W.heap.size W.heap.size x w2 hs2 (by omega))
  clear hs2 ho2
  go_wp2_with fail
  refine HP.out.mono ?_
  rintro e w3 ⟨bm, gn, cn, gw, cw, br, rn, dn, ro, eo, N, O, rfl, hps, hb3⟩
  have HB3 := Lib.hid (HB2.out.trans hb3)
  clear hps hb3 HP HB2
  go_wp2_with fail
  refine (awake_any w3).mono ?_
  rintro e w4 ⟨rfl, hb4⟩
  go_wp2_with fail
  go_ret
  exact ⟨rfl, HB3.out.next hb4⟩
end Go.Proofs.Ytieegbejpabpiaa
