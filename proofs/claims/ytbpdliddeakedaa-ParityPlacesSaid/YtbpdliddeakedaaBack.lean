/- What Back of the program and of the reference return. -/
import Derived.Test.YtbpdliddeakedaaPlace
namespace Go.Proofs.Ytbpdliddeakedaa
open Go.RowKit

def bK (chunk n leg off : Int) : Int := (leg - pPar n (off / chunk) - 1) % n
def bAt (chunk n leg off : Int) : Int := (off / chunk * (n - 1) + bK chunk n leg off) * chunk + off % chunk
def backB (chunk n leg off : Int) : Bool := okB chunk n && secB off && decide (0 ≤ leg) && decide (leg < n)
def backV (chunk n leg off : Int) : Value :=
  if backB chunk n leg off then (if bK chunk n leg off == n - 1 then .tuple #[.int .i64 0, .bool false, .int .i64 0] else .tuple #[.int .i64 (bAt chunk n leg off), .bool true, .int .i64 0])
  else .tuple #[.int .i64 0, .bool false, .int .i64 1]
theorem backB_iff (chunk n leg off : Int) : backB chunk n leg off = true ↔ (1 ≤ chunk ∧ chunk ≤ 65536 ∧ 3 ≤ n ∧ n ≤ 6) ∧ (0 ≤ off ∧ off ≤ 1073741824) ∧ 0 ≤ leg ∧ leg < n := by
  simp [backB, okB_iff, secB_iff, and_assoc]

theorem back_facts (chunk n leg off : Int) (h1 : 1 ≤ chunk) (h2 : chunk ≤ 65536) (h3 : 3 ≤ n) (h4 : n ≤ 6) (h5 : 0 ≤ off) (h6 : off ≤ 1073741824) :
    0 ≤ off / chunk ∧ off / chunk ≤ 1073741824 ∧ 0 ≤ pPar n (off / chunk) ∧ pPar n (off / chunk) < n ∧ 0 ≤ bK chunk n leg off ∧ bK chunk n leg off < n ∧
    0 ≤ off / chunk * (n - 1) ∧ off / chunk * (n - 1) ≤ 5368709120 ∧ 0 ≤ (off / chunk * (n - 1) + bK chunk n leg off) * chunk ∧ (off / chunk * (n - 1) + bK chunk n leg off) * chunk ≤ 351844048240640 ∧
    0 ≤ off % chunk ∧ off % chunk < 65536 := by
  have a1 : 0 ≤ off / chunk := Int.ediv_nonneg h5 (by omega)
  have a2 : off / chunk ≤ off := Int.ediv_le_self _ h5
  have m1 : 0 ≤ off / chunk % n := Int.emod_nonneg _ (by omega)
  have m2 : off / chunk % n < n := Int.emod_lt_of_pos _ (by omega)
  have a3 : 0 ≤ bK chunk n leg off := Int.emod_nonneg _ (by omega)
  have a4 : bK chunk n leg off < n := Int.emod_lt_of_pos _ (by omega)
  have a5 : off / chunk * (n - 1) ≤ 1073741824 * 5 := Int.mul_le_mul (by omega) (by omega) (by omega) (by omega)
  have a6 : 0 ≤ off / chunk * (n - 1) := Int.mul_nonneg a1 (by omega)
  have a7 : (off / chunk * (n - 1) + bK chunk n leg off) * chunk ≤ 5368709125 * 65536 := Int.mul_le_mul (by omega) (by omega) (by omega) (by omega)
  exact ⟨a1, by omega, by unfold pPar; omega, by unfold pPar; omega, a3, a4, a6, by omega, Int.mul_nonneg (by omega) (by omega), by omega, Int.emod_nonneg _ (by omega), by have := Int.emod_lt_of_pos off (b := chunk) (by omega); omega⟩

theorem bK_iff (chunk n leg off : Int) (h3 : 3 ≤ n) (h4 : n ≤ 6) (h7 : 0 ≤ leg) (h8 : leg < n) :
    (bK chunk n leg off == n - 1) = (leg == pPar n (off / chunk)) := by
  have m1 : 0 ≤ off / chunk % n := Int.emod_nonneg _ (by omega)
  have m2 : off / chunk % n < n := Int.emod_lt_of_pos _ (by omega)
  rw [Bool.eq_iff_iff]
  simp only [beq_iff_eq]
  unfold bK pPar
  generalize off / chunk % n = r at *
  obtain rfl | rfl | rfl | rfl : n = 3 ∨ n = 4 ∨ n = 5 ∨ n = 6 := by omega
  all_goals omega

set_option maxHeartbeats 400000 in
theorem back_any (chunk n leg off : Int) (w : World) : Calls Try.prog 14 #[.int .i64 chunk, .int .i64 n, .int .i64 leg, .int .i64 off] w (Ret (backV chunk n leg off) w) := by
  by_cases h : backB chunk n leg off = true
  · obtain ⟨⟨h1, h2, h3, h4⟩, ⟨h5, h6⟩, h7, h8⟩ := (backB_iff _ _ _ _).1 h
    obtain ⟨a1, a2, a3, a4, a5, a6, a7, a8, a9, a10, a11, a12⟩ := back_facts chunk n leg off h1 h2 h3 h4 h5 h6
    have hok : okB chunk n = true := (okB_iff _ _).2 ⟨h1, h2, h3, h4⟩
    have hsec : secB off = true := (secB_iff _).2 ⟨h5, h6⟩
    by_cases hk : (bK chunk n leg off == n - 1) = true
    · have H := Lib.hid (show backV chunk n leg off = .tuple #[.int .i64 0, .bool false, .int .i64 0] by simp only [backV, h, hk, if_true])
      clear h
      unfold bK at a5 a6 a9 a10 hk
      go_enter Try.func14, Try.ntmps14
      go_wp2_with fail
      refine (layout_any _ _ _).mono ?_
      rintro e w1 ⟨rfl, hb1⟩
      go_wp2_with fail
      refine (sector_any _ _).mono ?_
      rintro e w2 ⟨rfl, rfl⟩
      go_wp2_with fail
      refine (par_any _ _ _ (by omega) (by omega) (by omega) (by omega)).mono ?_
      rintro e w2 ⟨rfl, hb2⟩
      go_wp2_with fail
      rw [H.out]
      go_ret3
      exact ⟨rfl, (hb1.al _).next hb2⟩
    · have hk' : (bK chunk n leg off == n - 1) = false := by simpa using hk
      have H := Lib.hid (show backV chunk n leg off = .tuple #[.int .i64 (bAt chunk n leg off), .bool true, .int .i64 0] by simp only [backV, h, hk', if_true]; rfl)
      clear h hk
      unfold bAt at H
      unfold bK at a5 a6 a9 a10 hk' H
      go_enter Try.func14, Try.ntmps14
      go_wp2_with fail
      refine (layout_any _ _ _).mono ?_
      rintro e w1 ⟨rfl, hb1⟩
      go_wp2_with fail
      refine (sector_any _ _).mono ?_
      rintro e w2 ⟨rfl, rfl⟩
      go_wp2_with fail
      refine (par_any _ _ _ (by omega) (by omega) (by omega) (by omega)).mono ?_
      rintro e w2 ⟨rfl, hb2⟩
      go_wp2_with fail
      rw [H.out]
      go_ret3
      exact ⟨rfl, (hb1.al _).next hb2⟩
  · have h' : backB chunk n leg off = false := by simpa using h
    have H := Lib.hid (show backV chunk n leg off = .tuple #[.int .i64 0, .bool false, .int .i64 1] by simp only [backV, h']; rfl)
    by_cases hok : okB chunk n = true
    · by_cases hsec : secB off = true
      · have h7 : leg < 0 ∨ n ≤ leg := by
          rcases Int.lt_or_le leg 0 with h0 | h0
          · exact .inl h0
          · exact .inr (Int.le_of_not_gt fun hg => h (by simp [backB, hok, hsec, h0]; exact hg))
        clear h h'
        by_cases h8 : leg < 0
        all_goals
          go_enter Try.func14, Try.ntmps14
          go_wp2_with fail
          refine (layout_any _ _ _).mono ?_
          rintro e w1 ⟨rfl, hb1⟩
          go_wp2_with fail
          refine (sector_any _ _).mono ?_
          rintro e w2 ⟨rfl, rfl⟩
          go_wp2_with fail
          rw [H.out]
          go_ret3
          exact ⟨rfl, hb1.al _⟩
      · have hsec' : secB off = false := by simpa using hsec
        clear h h' hsec
        go_enter Try.func14, Try.ntmps14
        go_wp2_with fail
        refine (layout_any _ _ _).mono ?_
        rintro e w1 ⟨rfl, hb1⟩
        go_wp2_with fail
        refine (sector_any _ _).mono ?_
        rintro e w2 ⟨rfl, rfl⟩
        go_wp2_with fail
        rw [H.out]
        go_ret3
        exact ⟨rfl, hb1.al _⟩
    · have hok' : okB chunk n = false := by simpa using hok
      clear h h' hok
      go_enter Try.func14, Try.ntmps14
      go_wp2_with fail
      refine (layout_any _ _ _).mono ?_
      rintro e w1 ⟨rfl, hb1⟩
      go_wp2_with fail
      rw [H.out]
      go_ret3
      exact ⟨rfl, hb1.al _⟩

set_option maxHeartbeats 400000 in
theorem back_ref (chunk n leg off : Int) (w : World) : Calls Try.prog 16 #[.int .i64 chunk, .int .i64 n, .int .i64 leg, .int .i64 off] w (Ret (backV chunk n leg off) w) := by
  by_cases h : backB chunk n leg off = true
  · obtain ⟨⟨h1, h2, h3, h4⟩, ⟨h5, h6⟩, h7, h8⟩ := (backB_iff _ _ _ _).1 h
    obtain ⟨a1, a2, a3, a4, a5, a6, a7, a8, a9, a10, a11, a12⟩ := back_facts chunk n leg off h1 h2 h3 h4 h5 h6
    have hok : okB chunk n = true := (okB_iff _ _).2 ⟨h1, h2, h3, h4⟩
    have hb := bK_iff chunk n leg off h3 h4 h7 h8
    by_cases hk : (bK chunk n leg off == n - 1) = true
    · have H := Lib.hid (show backV chunk n leg off = .tuple #[.int .i64 0, .bool false, .int .i64 0] by simp only [backV, h, hk, if_true])
      clear h
      rw [hk] at hb
      have hb' := hb.symm
      clear hb hk
      unfold bK pPar at *
      go_enter Try.func16, Try.ntmps16
      go_wp2_with (go_at_call 24; refine (fits_any _ _ _).mono ?_; rintro e w2 ⟨rfl, rfl⟩)
      rw [H.out]
      go_ret3
      exact ⟨rfl, Below.refl _ _⟩
    · have hk' : (bK chunk n leg off == n - 1) = false := by simpa using hk
      have H := Lib.hid (show backV chunk n leg off = .tuple #[.int .i64 (bAt chunk n leg off), .bool true, .int .i64 0] by simp only [backV, h, hk', if_true]; rfl)
      rw [hk'] at hb
      have hb' := hb.symm
      clear hb hk h hk'
      unfold bAt at H
      unfold bK pPar at *
      go_enter Try.func16, Try.ntmps16
      go_wp2_with (go_at_call 24; refine (fits_any _ _ _).mono ?_; rintro e w2 ⟨rfl, rfl⟩)
      rw [H.out]
      go_ret3
      exact ⟨rfl, Below.refl _ _⟩
  · have h' : backB chunk n leg off = false := by simpa using h
    have H := Lib.hid (show backV chunk n leg off = .tuple #[.int .i64 0, .bool false, .int .i64 1] by simp only [backV, h']; rfl)
    by_cases hok : okB chunk n = true
    · by_cases h5 : off < 0
      · clear h h'
        go_enter Try.func16, Try.ntmps16
        go_wp2_with (go_at_call 24; refine (fits_any _ _ _).mono ?_; rintro e w2 ⟨rfl, rfl⟩)
        rw [H.out]
        go_ret3
        exact ⟨rfl, Below.refl _ _⟩
      · by_cases h6 : 1073741824 < off
        · clear h h'
          go_enter Try.func16, Try.ntmps16
          go_wp2_with (go_at_call 24; refine (fits_any _ _ _).mono ?_; rintro e w2 ⟨rfl, rfl⟩)
          rw [H.out]
          go_ret3
          exact ⟨rfl, Below.refl _ _⟩
        · have hsec : secB off = true := (secB_iff _).2 ⟨by omega, by omega⟩
          have h7 : leg < 0 ∨ n ≤ leg := by
            rcases Int.lt_or_le leg 0 with h0 | h0
            · exact .inl h0
            · exact .inr (Int.le_of_not_gt fun hg => h (by simp [backB, hok, hsec, h0]; exact hg))
          clear h h'
          by_cases h8 : leg < 0
          all_goals
            go_enter Try.func16, Try.ntmps16
            go_wp2_with (go_at_call 24; refine (fits_any _ _ _).mono ?_; rintro e w2 ⟨rfl, rfl⟩)
            rw [H.out]
            go_ret3
            exact ⟨rfl, Below.refl _ _⟩
    · have hok' : okB chunk n = false := by simpa using hok
      clear h h' hok
      go_enter Try.func16, Try.ntmps16
      go_wp2_with (go_at_call 24; refine (fits_any _ _ _).mono ?_; rintro e w2 ⟨rfl, rfl⟩)
      rw [H.out]
      go_ret3
      exact ⟨rfl, Below.refl _ _⟩
end Go.Proofs.Ytbpdliddeakedaa
