/- The closure of SpacemapCounts that sums the counts. -/
import Derived.Test.YtieegbejpabpiaaCounts
namespace Go.Proofs.Ytieegbejpabpiaa
open Go.RowKit

theorem sum_take {N : List Int} (k : Nat) (h : k < N.length) : (N.take (k + 1)).sum = (N.take k).sum + N.getD k 0 := by
  rw [take_next N k h, List.sum_append]
  simp
theorem sum_bound {N : List Int} (hr : ∀ z ∈ N, 0 ≤ z ∧ z ≤ 65535) (k : Nat) : 0 ≤ (N.take k).sum ∧ (N.take k).sum ≤ 65535 * (k : Int) := by
  induction k with
  | zero => simp
  | succ k ih =>
    by_cases h : k < N.length
    · rw [sum_take k h]
      have := rng_at hr k
      omega
    · rw [List.take_of_length_le (by omega)] at ih ⊢
      omega

set_option maxHeartbeats 1000000 in
theorem sum_any {base : Nat} {w : World} {pv bm gn cn gw cw lo : Nat} {N O : List Int} (h : MS base w bm gn cn gw cw N O lo) (hv : w.cell? ⟨pv, 0, none⟩ = some (.pointer (some ⟨bm, 0, none⟩))) :
    Calls Try.prog 26 #[.pointer (some ⟨pv, 0, none⟩)] w (Ret (.int .i64 N.sum) w) := by
  have HC := Lib.hid (counts_any h)
  have hs := h.small
  have hp := h.pos
  have HRG := Lib.hid h.rng
  clear h
  go_enter Try.func26, Try.ntmps26
  go_wp2_with fail
  refine HC.out.mono ?_
  rintro e w1 ⟨v1, rfl, hv1, hb1⟩
  obtain ⟨g1, c1, rfl, hr1⟩ := row_of hv1 hp
  have HR1 := Lib.hid hr1
  have HB1 := Lib.hid hb1
  clear hv1 hr1 hb1 HC hv
  go_wp2_with fail
  go_loop [2, 4] (fun x i => ∃ k : Nat, k ≤ N.length ∧ i = .int .i64 k ∧ x = .int .i64 (N.take k).sum) (fun _ i => N.length - (intOf i).toNat)
  case atStart => exact ⟨0, Nat.zero_le _, rfl, rfl⟩
  case round =>
    obtain ⟨k, hk, rfl, rfl⟩ := hrel
    have hsb := sum_bound HRG.out k
    by_cases hlt : k < N.length
    · have d0 := HR1.out.cell hlt
      have HST := Lib.hid (sum_take k hlt)
      have hrk := rng_at HRG.out k
      have i1 : (k : Int) < (N.length : Int) := by omega
      generalize N.getD k 0 = x at d0 HST hrk
      generalize (N.take k).sum = s at HST hsb
      go_wp2_with fail
      go_round
      case rel => exact ⟨k + 1, by omega, by go_num, by rw [HST.out]⟩
      case measure => simp [intOf]; omega
    · obtain rfl : k = N.length := by omega
      have HT := Lib.hid (show (N.take N.length).sum = N.sum by rw [List.take_length])
      generalize (N.take N.length).sum = s at HT hsb
      go_wp2_with fail
      go_ret
      exact ⟨by rw [← HT.out]; rfl, HB1.out⟩
end Go.Proofs.Ytieegbejpabpiaa
