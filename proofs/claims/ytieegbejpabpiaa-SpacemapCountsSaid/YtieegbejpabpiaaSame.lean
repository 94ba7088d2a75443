/- A space map against the reference's: same answers true. -/
import Derived.Test.YtieegbejpabpiaaLoad2
namespace Go.Proofs.Ytieegbejpabpiaa
open Go.RowKit

theorem own_reads {base : Nat} {w : World} {v : Value} {l : List Int} (h : w.ownsRow base 3 1 v l.length (I l)) : ∃ A c, v = .slice A l.length c ∧ Reads w w.heap.size 1 A l.length (I l) := by
  have h' := h
  obtain ⟨h1, h2⟩ := h
  rcases h2 with ⟨h2, h3⟩ | ⟨g, cap, cur, rfl, r⟩
  · subst h2
    refine ⟨none, 0, by rw [h3], ?_⟩
    rw [h3] at h' ⊢
    exact Reads.of_own h'
  · exact ⟨_, _, rfl, Reads.of_own h'⟩

set_option maxRecDepth 100000 in
set_option maxHeartbeats 4000000 in
theorem same_any {base : Nat} {w : World} {bm gn cn gw cw lo br rn dn ro eo : Nat} {N O : List Int} (hm : MS base w bm gn cn gw cw N O lo) (hr : RS base w br rn dn ro eo N O) :
    Calls Try.prog 10 #[.pointer (some ⟨bm, 0, none⟩), .pointer (some ⟨br, 0, none⟩)] w (Ret (.bool true) w) := by
  have hs := hm.small
  have hp := hm.pos
  have c0 := hr.c0
  have HC := Lib.hid (counts_any hm)
  have HM := Lib.hid hm
  have HR := Lib.hid hr
  clear hm hr
  go_enter Try.func10, Try.ntmps10
  go_wp2_with fail
  refine HC.out.mono ?_
  rintro e w1 ⟨v1, rfl, hv1, hb1⟩
  obtain ⟨g1, c1, rfl, hr1⟩ := row_of hv1 hp
  have HR1 := Lib.hid hr1
  have HB1 := Lib.hid hb1
  have HCH := Lib.hid (changed_any (HM.out.below hb1))
  clear hv1 hb1 hr1 c0 HC
  go_wp2_with fail
  refine HCH.out.mono ?_
  rintro e w2 ⟨v2, rfl, hv2, hb2⟩
  obtain ⟨A2, c2, rfl, hr2⟩ := own_reads hv2
  have HR2 := Lib.hid hr2
  have HB2 := Lib.hid hb2
  have HDH := Lib.hid (rchanged_any (HR.out.below (HB1.out.next hb2)))
  have hcl := chg_le N O N.length
  clear hv2 hb2 hr2 HCH
  go_wp2_with fail
  refine HDH.out.mono ?_
  rintro e w3 ⟨v3, rfl, hv3, hb3⟩
  obtain ⟨A3, c3, rfl, hr3⟩ := own_reads hv3
  have hb13 := HB2.out.next hb3
  have hb03 := HB1.out.next hb13
  have HM3 := Lib.hid (HM.out.below hb03)
  have HRR3 := Lib.hid (HR.out.below hb03)
  have HR13 := Lib.hid (HR1.out.below hb13)
  have HR23 := Lib.hid (HR2.out.below hb3)
  have hsz := hb3.size
  have HR33 := Lib.hid hr3
  have HB3 := Lib.hid hb03
  clear hv3 hb3 hr3 hb13 hb03 HDH HB1 HB2 HR1 HR2 HM HR
  generalize chg N O N.length = C at *
  have HL := Lib.hid (len_any HM3.out)
  have HF := Lib.hid (freeN_any HM3.out)
  have HF' := Lib.hid (rfree_any HRR3.out)
  generalize hnf : nfree N O N.length = nf at HF HF'
  clear hnf
  go_wp2_with fail
  refine HL.out.mono ?_
  rintro e w4 ⟨rfl, rfl⟩
  go_wp2_with fail
  refine HF.out.mono ?_
  rintro e w4 ⟨rfl, rfl⟩
  go_wp2_with fail
  refine HF'.out.mono ?_
  rintro e w4 ⟨rfl, rfl⟩
  clear HL HF HF'
  go_wp2_with fail
  go_loop [9] (fun i => ∃ b : Int, -1 ≤ b ∧ b ≤ N.length + 1 ∧ i = .int .i64 b) (fun i => ((N.length : Int) + 1 - intOf i).toNat)
  case atStart => exact ⟨-1, by omega, by omega, rfl⟩
  case round =>
    obtain ⟨b, hb1, hb2, rfl⟩ := hrel
    by_cases hlt : b ≤ N.length
    · have H1 := Lib.hid (count_any HM3.out b)
      have H2 := Lib.hid (rcount_any HRR3.out b)
      have H3 := Lib.hid (was_any HM3.out b)
      have H4 := Lib.hid (rwas_any HRR3.out b)
      generalize atI N b = x at H1 H2
      generalize atI O b = y at H3 H4
      go_wp2_with fail
      refine H1.out.mono ?_
      rintro e w4 ⟨rfl, rfl⟩
      go_wp2_with fail
      refine H2.out.mono ?_
      rintro e w4 ⟨rfl, rfl⟩
      go_wp2_with fail
      refine H3.out.mono ?_
      rintro e w4 ⟨rfl, rfl⟩
      go_wp2_with fail
      refine H4.out.mono ?_
      rintro e w4 ⟨rfl, rfl⟩
      go_wp2_with fail
      go_round
      case rel => exact ⟨b + 1, by omega, by omega, by go_num⟩
      case measure => simp [intOf]; omega
    · go_wp2_with fail
      go_loopw [10] (fun i wr => ∃ k : Nat, k ≤ N.length ∧ i = .int .i64 k ∧ Below w3.heap.size w3 wr) (fun i _ => N.length - (intOf i).toNat)
      case atStart => exact ⟨0, Nat.zero_le _, rfl, Below.refl _ _⟩
      case round =>
        obtain ⟨k, hk, rfl, hbw⟩ := hrel
        by_cases hlt2 : k < N.length
        · have e0 := (HRR3.out.below hbw).c0
          have d0 := (HR13.out.below hbw).cell hlt2
          have d1 := (HRR3.out.below hbw).now.cell hlt2
          have i1 : (k : Int) < (N.length : Int) := by omega
          generalize N.getD k 0 = x at d0 d1
          go_wp2_with fail
          go_quiet (fail)
          go_wp2_with fail
          go_roundw
          case rel => exact ⟨k + 1, by omega, by go_num, below_drewN hbw _⟩
          case measure => simp [intOf]; omega
        · obtain rfl : k = N.length := by omega
          go_wp2_with fail
          go_loopw [11] (fun i wr => ∃ k : Nat, k ≤ C.length ∧ i = .int .i64 k ∧ Below w3.heap.size w3 wr) (fun i _ => C.length - (intOf i).toNat)
          case atStart => exact ⟨0, Nat.zero_le _, rfl, hbw⟩
          case round =>
            obtain ⟨k, hk, rfl, hbw⟩ := hrel
            by_cases hlt2 : k < C.length
            · obtain ⟨a2, rfl, _, q2⟩ := (HR23.out.below (hbw.mono hsz)).2 (by omega)
              obtain ⟨a3, rfl, _, q3⟩ := (HR33.out.below hbw).2 (by omega)
              have d0 := q2 k _ (I_at C k hlt2)
              have d1 := q3 k _ (I_at C k hlt2)
              have i1 : (k : Int) < (C.length : Int) := by omega
              generalize C.getD k 0 = x at d0 d1
              clear q2 q3
              go_wp2_with fail
              go_quiet (fail)
              go_wp2_with fail
              go_roundw
              case rel => exact ⟨k + 1, by omega, by go_num, below_drewN hbw _⟩
              case measure => simp [intOf]; omega
            · obtain rfl : k = C.length := by omega
              go_wp2_with fail
              go_ret
              exact ⟨rfl, HB3.out.next hbw⟩
end Go.Proofs.Ytieegbejpabpiaa
