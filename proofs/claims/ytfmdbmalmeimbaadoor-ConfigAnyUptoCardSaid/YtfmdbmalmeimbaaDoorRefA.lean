/- The reference: digit, letter, Number. -/
import Derived.Test.YtfmdbmalmeimbaaDoorTokens
namespace Go.Proofs.YtfmdbmalmeimbaaDoor
open Go.RowKit
set_option maxRecDepth 100000

set_option maxHeartbeats 1000000 in
theorem rdigit_any (n : Nat) (w : World) {b : Bool} (hb : digitN n = b) : Calls Tryd.prog 91 #[.int .u8 n] w (fun e w' => e = .returned (.bool b) ∧ w = w') := by
  have HB := Lib.hid hb
  clear hb
  by_cases h1 : 48 ≤ n
  · have i1 : 48 ≤ (n : Int) := by omega
    by_cases h2 : n ≤ 57
    · have HE := Lib.hid (show b = true by rw [← HB.out]; simp [digitN, h1, h2])
      have i2 : (n : Int) ≤ 57 := by omega
      go_enter Tryd.func91, Tryd.ntmps91
      go_wp2_with fail
      go_ret
      exact ⟨by rw [HE.out]; rfl, rfl⟩
    · have HE := Lib.hid (show b = false by rw [← HB.out]; simp [digitN, h2])
      have i2 : decide ((n : Int) ≤ 57) = false := decide_eq_false (by omega)
      go_enter Tryd.func91, Tryd.ntmps91
      go_wp2_with fail
      go_ret
      exact ⟨by rw [HE.out]; rfl, rfl⟩
  · have HE := Lib.hid (show b = false by rw [← HB.out]; simp [digitN, h1])
    have i1 : decide (48 ≤ (n : Int)) = false := decide_eq_false (by omega)
    go_enter Tryd.func91, Tryd.ntmps91
    go_wp2_with fail
    go_ret
    exact ⟨by rw [HE.out]; rfl, rfl⟩

set_option maxHeartbeats 2000000 in
theorem rletter_any (n : Nat) (w : World) {b : Bool} (hb : letterN n = b) : Calls Tryd.prog 72 #[.int .u8 n] w (fun e w' => e = .returned (.bool b) ∧ w = w') := by
  have HB := Lib.hid hb
  clear hb
  by_cases h1 : 97 ≤ n ∧ n ≤ 122
  · have HE := Lib.hid (show b = true by rw [← HB.out]; simp [letterN, h1])
    obtain ⟨h1, h2⟩ := h1
    have i1 : 97 ≤ (n : Int) := by omega
    have i2 : (n : Int) ≤ 122 := by omega
    go_enter Tryd.func72, Tryd.ntmps72
    go_wp2_with fail
    go_ret
    exact ⟨by rw [HE.out]; rfl, rfl⟩
  by_cases h2 : 65 ≤ n ∧ n ≤ 90
  · have HE := Lib.hid (show b = true by rw [← HB.out]; simp [letterN, h2])
    obtain ⟨h3, h4⟩ := h2
    have i1 : 65 ≤ (n : Int) := by omega
    have i2 : (n : Int) ≤ 90 := by omega
    have i3 : ¬ 97 ≤ (n : Int) := by omega
    clear h1
    go_enter Tryd.func72, Tryd.ntmps72
    go_wp2_with fail
    go_ret
    exact ⟨by rw [HE.out]; rfl, rfl⟩
  have hk : n < 65 ∨ (90 < n ∧ n < 97) ∨ 122 < n := by omega
  cases hd : digitN n with
  | true =>
    have HE := Lib.hid (show b = true by
      rw [← HB.out]
      unfold digitN at hd
      unfold letterN
      rw [hd]
      simp)
    have HD := Lib.hid (rdigit_any n w hd)
    clear h1 h2 hd
    rcases hk with hk | hk | hk
    all_goals
      (try have e1 := decide_eq_false (show ¬ ((n : Int) ≤ 122) by omega))
      (try have e2 := decide_eq_false (show ¬ ((n : Int) ≤ 90) by omega))
      go_enter Tryd.func72, Tryd.ntmps72
      go_wp2_with fail
      refine HD.out.mono ?_
      rintro e w1 ⟨rfl, rfl⟩
      go_wp2_with fail
      go_ret
      exact ⟨by rw [HE.out]; rfl, rfl⟩
  | false =>
    have HD := Lib.hid (rdigit_any n w hd)
    have HE := Lib.hid (show b = (decide (n = 95) || decide (n = 46) || decide (n = 43) || decide (n = 45)) by
      rw [← HB.out]
      unfold digitN at hd
      unfold letterN
      have d1 : (decide (97 ≤ n) && decide (n ≤ 122)) = false := by simpa using h1
      have d2 : (decide (65 ≤ n) && decide (n ≤ 90)) = false := by simpa using h2
      rw [d1, d2, hd]
      simp)
    clear h1 h2 hd
    by_cases q1 : n = 95
    · have HE2 := Lib.hid (show b = true by rw [HE.out]; simp [q1])
      subst q1
      go_enter Tryd.func72, Tryd.ntmps72
      go_wp2_with fail
      refine HD.out.mono ?_
      rintro e w1 ⟨rfl, rfl⟩
      go_wp2_with fail
      go_ret
      exact ⟨by rw [HE2.out]; rfl, rfl⟩
    by_cases q2 : n = 46
    · have HE2 := Lib.hid (show b = true by rw [HE.out]; simp [q2])
      subst q2
      go_enter Tryd.func72, Tryd.ntmps72
      go_wp2_with fail
      refine HD.out.mono ?_
      rintro e w1 ⟨rfl, rfl⟩
      go_wp2_with fail
      go_ret
      exact ⟨by rw [HE2.out]; rfl, rfl⟩
    by_cases q3 : n = 43
    · have HE2 := Lib.hid (show b = true by rw [HE.out]; simp [q3])
      subst q3
      go_enter Tryd.func72, Tryd.ntmps72
      go_wp2_with fail
      refine HD.out.mono ?_
      rintro e w1 ⟨rfl, rfl⟩
      go_wp2_with fail
      go_ret
      exact ⟨by rw [HE2.out]; rfl, rfl⟩
    by_cases q4 : n = 45
    · have HE2 := Lib.hid (show b = true by rw [HE.out]; simp [q4])
      subst q4
      go_enter Tryd.func72, Tryd.ntmps72
      go_wp2_with fail
      refine HD.out.mono ?_
      rintro e w1 ⟨rfl, rfl⟩
      go_wp2_with fail
      go_ret
      exact ⟨by rw [HE2.out]; rfl, rfl⟩
    have HE2 := Lib.hid (show b = false by rw [HE.out]; simp [q1, q2, q3, q4])
    have z1 : ((n : Int) == 95) = false := beq_eq_false_iff_ne.2 (by omega)
    have z2 : ((n : Int) == 46) = false := beq_eq_false_iff_ne.2 (by omega)
    have z3 : ((n : Int) == 43) = false := beq_eq_false_iff_ne.2 (by omega)
    have z4 : ((n : Int) == 45) = false := beq_eq_false_iff_ne.2 (by omega)
    clear q1 q2 q3 q4
    rcases hk with hk | hk | hk
    all_goals
      (try have e1 := decide_eq_false (show ¬ ((n : Int) ≤ 122) by omega))
      (try have e2 := decide_eq_false (show ¬ ((n : Int) ≤ 90) by omega))
      go_enter Tryd.func72, Tryd.ntmps72
      go_wp2_with fail
      refine HD.out.mono ?_
      rintro e w1 ⟨rfl, rfl⟩
      go_wp2_with fail
      go_ret
      exact ⟨by rw [HE2.out]; rfl, rfl⟩
/-- the loop of Number, behind the sign -/
theorem digs_at (l : List UInt8) : ∃ i0 : Nat, (i0 = 0 ∨ i0 = 1) ∧ negB l = decide (i0 = 1) ∧ l.length = i0 + (digs l).length ∧ ∀ q, l[i0 + q]? = (digs l)[q]? := by
  rcases digs_cases l with ⟨c, r, rfl, h1, h2, h3⟩ | ⟨h1, h2, _⟩
  · exact ⟨1, .inr rfl, by rw [h3]; rfl, by rw [h2, List.length_cons, Nat.add_comm], fun q => by rw [h2, Nat.add_comm, List.getElem?_cons_succ]⟩
  · exact ⟨0, .inl rfl, by rw [h2]; rfl, by rw [h1, Nat.zero_add], fun q => by rw [h1, Nat.zero_add]⟩
end Go.Proofs.YtfmdbmalmeimbaaDoor
