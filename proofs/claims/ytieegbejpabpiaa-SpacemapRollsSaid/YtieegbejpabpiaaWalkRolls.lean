/- The walk of SpacemapRolls. -/
import Derived.Test.YtieegbejpabpiaaPlay2
namespace Go.Proofs.Ytieegbejpabpiaa
open Go.RowKit

theorem chg_self (N : List Int) (k : Nat) : chg N N k = [] := by simp [chg]

set_option maxRecDepth 100000 in
set_option maxHeartbeats 4000000 in
theorem rolls_walk (A : Option Addr) (m c : Nat) (l : List Int) (W : World) (hmc : m ≤ c) (hcm : c ≤ maxLen) (hr : Reads W W.heap.size 1 A m (I l)) :
    Calls Try.prog 6 #[.slice A m c] W (Ret (.bool true) W) := by
  have HN := Lib.hid (srcNew_any A m c l W hmc hcm hr)
  clear hr hmc hcm
  go_enter Try.func6, Try.ntmps6
  go_wp2_with fail
  refine HN.out.mono ?_
  rintro e w1 ⟨rfl, hs1, hb1⟩
  have HS1 := Lib.hid hs1
  have HB1 := Lib.hid hb1
  clear hs1 hb1 HN
  go_wp2_with fail
  refine (srcRange_any W.heap.size W.heap.size 0 20 _ HS1.out (by omega) (by omega) (by omega)).mono ?_
  rintro e w2 ⟨x, ⟨hx1, hx2⟩, rfl, hs2, ho2⟩
  obtain ⟨x, rfl⟩ := Int.eq_ofNat_of_zero_le hx1
  have HB2 := Lib.hid (HB1.out.trans (ho2.below HS1.out.lt.2.2 (fun k e => by rw [e]; exact Nat.le_refl _)))
  have HP := Lib.hid (play_any W.heap.size W.heap.size x w2 hs2 (by omega))
  clear hs2 ho2
  go_wp2_with fail
  refine HP.out.mono ?_
  rintro e w3 ⟨bm, gn, cn, gw, cw, br, rn, dn, ro, eo, N, O, rfl, hps, hb3⟩
  have HB3 := Lib.hid (HB2.out.trans hb3)
  have HP3 := Lib.hid hps
  obtain ⟨lo, hm, hl⟩ := hps.map
  have HC1 := Lib.hid (rollback_any hm)
  clear hps hb3 HP HB2 hm hl
  go_wp2_with fail
  refine HC1.out.mono ?_
  rintro e wa ⟨rfl, hma, hoa⟩
  have HMA := Lib.hid hma
  have HOA := Lib.hid hoa
  have HC2 := Lib.hid (rrollback_any (HP3.out.mid hoa))
  clear hma hoa HC1
  go_wp2_with fail
  refine HC2.out.mono ?_
  rintro e wb ⟨rfl, rn', dn', ro', eo', hrb, hob, hrn, hro⟩
  obtain ⟨hpx, hbx⟩ := HP3.out.pair HMA.out HOA.out hrb hob hrn hro
  have HPX := Lib.hid hpx
  have HBX := Lib.hid (HB3.out.trans hbx)
  obtain ⟨lo9, hm9, _⟩ := hpx.map
  have HSM := Lib.hid (same_any hm9 hpx.ref)
  clear hrb hob hrn hro hpx hbx HC2 HMA HOA HP3 HB3 hm9
  go_wp2_with fail
  refine HSM.out.mono ?_
  rintro e wz ⟨rfl, hbz⟩
  have HPZ := Lib.hid (HPX.out.below hbz)
  have HBZ := Lib.hid (HBX.out.trans (hbz.mono HPX.out.size))
  obtain ⟨lo9, hm9, _⟩ := HPZ.out.map
  have HCH := Lib.hid (changed_any hm9)
  rw [chg_self] at HCH
  clear hbz HSM HPX HBX hm9
  go_wp2_with fail
  refine HCH.out.mono ?_
  rintro e w5 ⟨v, rfl, hv, hb5⟩
  obtain ⟨A5, c5, rfl, _⟩ := own_reads hv
  have HP5 := Lib.hid (HPZ.out.below hb5)
  have HB5 := Lib.hid (HBZ.out.trans (hb5.mono HPZ.out.size))
  obtain ⟨lo9, hm9, _⟩ := HP5.out.map
  have HC1 := Lib.hid (commit_any hm9)
  rw [List.length_nil]
  clear hv hb5 hm9 HCH HPZ HBZ
  go_wp2_with fail
  refine HC1.out.mono ?_
  rintro e w6 ⟨rfl, hma, hoa⟩
  have HR6 := Lib.hid (HP5.out.mid hoa)
  obtain ⟨lo6, hm6, _⟩ := hma
  have HSM := Lib.hid (same_any hm6 HR6.out)
  obtain ⟨lo5, hm5, _⟩ := HP5.out.map
  have HB6 := Lib.hid (HB5.out.trans (hoa.below HP5.out.size (fun k hk => (hm5.ge k hk).1)))
  have hz6 := Nat.le_trans HP5.out.size hoa.size
  clear hoa hm6 hm5 HC1
  go_wp2_with fail
  refine HSM.out.mono ?_
  rintro e w7 ⟨rfl, hb7⟩
  have HB7 := Lib.hid (HB6.out.trans (hb7.mono hz6))
  clear hb7 HSM hz6
  go_wp2_with fail
  refine (awake_any w7).mono ?_
  rintro e w8 ⟨rfl, hb8⟩
  go_wp2_with fail
  go_ret
  exact ⟨rfl, HB7.out.next hb8⟩
end Go.Proofs.Ytieegbejpabpiaa
