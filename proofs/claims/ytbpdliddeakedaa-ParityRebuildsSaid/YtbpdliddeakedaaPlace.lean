/- What Place and Back of the program and of the reference return. -/
import Derived.Test.YtbpdliddeakedaaRows
import Derived.Test.YtbpdliddeakedaaFrame
namespace Go.Proofs.Ytbpdliddeakedaa
open Go.RowKit


/-- the leg with the parity of a row -/
def pPar (n row : Int) : Int := n - 1 - row % n
def pLeg (chunk n at_ : Int) : Int := (pPar n (at_ / chunk / (n - 1)) + 1 + at_ / chunk % (n - 1)) % n
def pOff (chunk n at_ : Int) : Int := at_ / chunk / (n - 1) * chunk + at_ % chunk

def okB (chunk n : Int) : Bool := decide (1 ≤ chunk) && decide (chunk ≤ 65536) && decide (3 ≤ n) && decide (n ≤ 6)

theorem div_facts (chunk n at_ : Int) (h1 : 1 ≤ chunk) (h3 : 3 ≤ n) (h5 : 0 ≤ at_) :
    0 ≤ at_ / chunk ∧ at_ / chunk ≤ at_ ∧ 0 ≤ at_ / chunk / (n - 1) ∧ at_ / chunk / (n - 1) ≤ at_ ∧ 0 ≤ at_ / chunk / (n - 1) * chunk ∧ at_ / chunk / (n - 1) * chunk ≤ at_ ∧
    0 ≤ at_ % chunk ∧ at_ % chunk < chunk ∧ 0 ≤ at_ / chunk % (n - 1) ∧ at_ / chunk % (n - 1) < n - 1 ∧
    0 ≤ at_ / chunk / (n - 1) % n ∧ at_ / chunk / (n - 1) % n < n := by
  have a1 : 0 ≤ at_ / chunk := Int.ediv_nonneg h5 (by omega)
  have a2 : at_ / chunk ≤ at_ := Int.ediv_le_self _ h5
  have a3 : 0 ≤ at_ / chunk / (n - 1) := Int.ediv_nonneg a1 (by omega)
  have a4 : at_ / chunk / (n - 1) ≤ at_ / chunk := Int.ediv_le_self _ a1
  have a5 : at_ / chunk / (n - 1) * chunk ≤ at_ / chunk * chunk := Int.mul_le_mul_of_nonneg_right a4 (by omega)
  have a6 : at_ / chunk * chunk ≤ at_ := Int.ediv_mul_le _ (by omega)
  exact ⟨a1, a2, a3, by omega, Int.mul_nonneg a3 (by omega), by omega, Int.emod_nonneg _ (by omega), Int.emod_lt_of_pos _ (by omega), Int.emod_nonneg _ (by omega), Int.emod_lt_of_pos _ (by omega), Int.emod_nonneg _ (by omega), Int.emod_lt_of_pos _ (by omega)⟩

set_option maxHeartbeats 400000 in
theorem par_any (n row : Int) (w : World) (h3 : 3 ≤ n) (h4 : n ≤ 6) (h5 : 0 ≤ row) (h6 : row ≤ 1073741824) :
    Calls Try.prog 23 #[.agg #[.int .i64 n], .int .i64 row] w (Ret (.int .i64 (pPar n row)) w) := by
  have a := Int.emod_nonneg row (b := n) (by omega)
  have b := Int.emod_lt_of_pos row (b := n) (by omega)
  go_enter Try.func23, Try.ntmps23
  go_wp2
  go_quiet (fail)
  go_wp2
  go_ret
  exact ⟨rfl, below_drewN ((Below.refl _ _).alloc (Nat.le_refl _) _) _⟩

def secB (a : Int) : Bool := decide (0 ≤ a) && decide (a ≤ 1073741824)

set_option maxHeartbeats 400000 in
theorem sector_any (a : Int) (w : World) : Calls Try.prog 22 #[.int .i64 a] w fun e w' => e = .returned (.bool (secB a)) ∧ w = w' := by
  by_cases h : 0 ≤ a
  · have H := Lib.hid (show secB a = decide (a ≤ 1073741824) by simp [secB, h])
    go_enter Try.func22, Try.ntmps22
    go_wp2
    go_ret
    exact ⟨by rw [H.out]; rfl, rfl⟩
  · have H := Lib.hid (show secB a = false by simp [secB, h])
    go_enter Try.func22, Try.ntmps22
    go_wp2
    go_ret
    exact ⟨by rw [H.out]; rfl, rfl⟩

set_option maxHeartbeats 400000 in
theorem layout_any (c n : Int) (w : World) : Calls Try.prog 21 #[.int .i64 c, .int .i64 n] w (Ret (.tuple #[.agg #[.int .i64 n, .int .i64 c], .bool (okB c n)]) w) := by
  by_cases h1 : 1 ≤ c
  · by_cases h2 : c ≤ 65536
    · by_cases h3 : 3 ≤ n
      · have H := Lib.hid (show okB c n = decide (n ≤ 6) by simp [okB, h1, h2, h3])
        go_enter Try.func21, Try.ntmps21
        go_wp2
        rw [H.out]
        exact bodyPost_ret (v := .tuple #[.agg #[.int .i64 n, .int .i64 c], .bool (decide (n ≤ 6))]) (by simp [results, Try.results21, go_sem]) rfl ⟨rfl, (Below.refl _ _).alloc (Nat.le_refl _) _⟩
      · have H := Lib.hid (show okB c n = false by simp [okB, h3])
        go_enter Try.func21, Try.ntmps21
        go_wp2
        rw [H.out]
        exact bodyPost_ret (v := .tuple #[.agg #[.int .i64 n, .int .i64 c], .bool false]) (by simp [results, Try.results21, go_sem]) rfl ⟨rfl, (Below.refl _ _).alloc (Nat.le_refl _) _⟩
    · have H := Lib.hid (show okB c n = false by simp [okB, h2])
      go_enter Try.func21, Try.ntmps21
      go_wp2
      rw [H.out]
      exact bodyPost_ret (v := .tuple #[.agg #[.int .i64 n, .int .i64 c], .bool false]) (by simp [results, Try.results21, go_sem]) rfl ⟨rfl, (Below.refl _ _).alloc (Nat.le_refl _) _⟩
  · have H := Lib.hid (show okB c n = false by simp [okB, h1])
    go_enter Try.func21, Try.ntmps21
    go_wp2
    rw [H.out]
    exact bodyPost_ret (v := .tuple #[.agg #[.int .i64 n, .int .i64 c], .bool false]) (by simp [results, Try.results21, go_sem]) rfl ⟨rfl, (Below.refl _ _).alloc (Nat.le_refl _) _⟩

theorem okB_iff (c n : Int) : okB c n = true ↔ 1 ≤ c ∧ c ≤ 65536 ∧ 3 ≤ n ∧ n ≤ 6 := by simp [okB, and_assoc]
theorem secB_iff (a : Int) : secB a = true ↔ 0 ≤ a ∧ a ≤ 1073741824 := by simp [secB]

def placeV (chunk n at_ : Int) : Value :=
  if okB chunk n && secB at_ then .tuple #[.int .i64 (pLeg chunk n at_), .int .i64 (pOff chunk n at_), .int .i64 (pPar n (at_ / chunk / (n - 1))), .int .i64 0]
  else .tuple #[.int .i64 0, .int .i64 0, .int .i64 0, .int .i64 1]

set_option maxHeartbeats 400000 in
theorem place_any (chunk n at_ : Int) (w : World) : Calls Try.prog 13 #[.int .i64 chunk, .int .i64 n, .int .i64 at_] w (Ret (placeV chunk n at_) w) := by
  by_cases h : okB chunk n = true
  · by_cases h' : secB at_ = true
    · obtain ⟨h1, h2, h3, h4⟩ := (okB_iff _ _).1 h
      obtain ⟨h5, h6⟩ := (secB_iff _).1 h'
      obtain ⟨a1, a2, a3, a4, a5, a6, a7, a8, a9, a10, a11, a12⟩ := div_facts chunk n at_ h1 h3 h5
      have H := Lib.hid (show placeV chunk n at_ = .tuple #[.int .i64 (pLeg chunk n at_), .int .i64 (pOff chunk n at_), .int .i64 (pPar n (at_ / chunk / (n - 1))), .int .i64 0] by simp [placeV, h, h'])
      have hp : 0 ≤ pPar n (at_ / chunk / (n - 1)) ∧ pPar n (at_ / chunk / (n - 1)) < n := by unfold pPar; omega
      obtain ⟨hp1, hp2⟩ := hp
      go_enter Try.func13, Try.ntmps13
      go_wp2_with fail
      refine (layout_any _ _ _).mono ?_
      rintro e w1 ⟨rfl, hb1⟩
      go_wp2_with fail
      refine (sector_any _ _).mono ?_
      rintro e w2 ⟨rfl, rfl⟩
      go_wp2_with fail
      refine (par_any _ _ _ (by omega) (by omega) (by omega) (by omega)).mono ?_
      rintro e w2 ⟨rfl, hb2⟩
      go_wp2_with fail
      go_quiet (fail)
      go_wp2_with fail
      rw [H.out]
      refine bodyPost_ret (results_tmp4 rfl _ _ _) rfl ⟨rfl, below_drewN ((hb1.al _).next hb2) _⟩
    · have h'' : secB at_ = false := by simpa using h'
      have H := Lib.hid (show placeV chunk n at_ = .tuple #[.int .i64 0, .int .i64 0, .int .i64 0, .int .i64 1] by simp [placeV, h''])
      clear h'
      go_enter Try.func13, Try.ntmps13
      go_wp2_with fail
      refine (layout_any _ _ _).mono ?_
      rintro e w1 ⟨rfl, hb1⟩
      go_wp2_with fail
      refine (sector_any _ _).mono ?_
      rintro e w2 ⟨rfl, rfl⟩
      go_wp2_with fail
      rw [H.out]
      refine bodyPost_ret (results_tmp4 rfl _ _ _) rfl ⟨rfl, hb1.al _⟩
  · have h'' : okB chunk n = false := by simpa using h
    have H := Lib.hid (show placeV chunk n at_ = .tuple #[.int .i64 0, .int .i64 0, .int .i64 0, .int .i64 1] by simp [placeV, h''])
    clear h
    go_enter Try.func13, Try.ntmps13
    go_wp2_with fail
    refine (layout_any _ _ _).mono ?_
    rintro e w1 ⟨rfl, hb1⟩
    go_wp2_with fail
    rw [H.out]
    refine bodyPost_ret (results_tmp4 rfl _ _ _) rfl ⟨rfl, hb1.al _⟩

set_option maxHeartbeats 400000 in
theorem fits_any (c n : Int) (w : World) : Calls Try.prog 24 #[.int .i64 c, .int .i64 n] w fun e w' => e = .returned (.bool (okB c n)) ∧ w = w' := by
  by_cases h1 : 1 ≤ c
  · by_cases h2 : c ≤ 65536
    · by_cases h3 : 3 ≤ n
      · have H := Lib.hid (show okB c n = decide (n ≤ 6) by simp [okB, h1, h2, h3])
        go_enter Try.func24, Try.ntmps24
        go_wp2
        go_ret
        exact ⟨by rw [H.out]; rfl, rfl⟩
      · have H := Lib.hid (show okB c n = false by simp [okB, h3])
        go_enter Try.func24, Try.ntmps24
        go_wp2
        go_ret
        exact ⟨by rw [H.out]; rfl, rfl⟩
    · have H := Lib.hid (show okB c n = false by simp [okB, h2])
      go_enter Try.func24, Try.ntmps24
      go_wp2
      go_ret
      exact ⟨by rw [H.out]; rfl, rfl⟩
  · have H := Lib.hid (show okB c n = false by simp [okB, h1])
    go_enter Try.func24, Try.ntmps24
    go_wp2
    go_ret
    exact ⟨by rw [H.out]; rfl, rfl⟩

set_option maxHeartbeats 400000 in
theorem place_ref (chunk n at_ : Int) (w : World) : Calls Try.prog 15 #[.int .i64 chunk, .int .i64 n, .int .i64 at_] w (Ret (placeV chunk n at_) w) := by
  by_cases h : okB chunk n = true
  · by_cases h' : secB at_ = true
    · obtain ⟨h1, h2, h3, h4⟩ := (okB_iff _ _).1 h
      obtain ⟨h5, h6⟩ := (secB_iff _).1 h'
      obtain ⟨a1, a2, a3, a4, a5, a6, a7, a8, a9, a10, a11, a12⟩ := div_facts chunk n at_ h1 h3 h5
      have H := Lib.hid (show placeV chunk n at_ = .tuple #[.int .i64 (pLeg chunk n at_), .int .i64 (pOff chunk n at_), .int .i64 (pPar n (at_ / chunk / (n - 1))), .int .i64 0] by simp [placeV, h, h'])
      go_enter Try.func15, Try.ntmps15
      go_wp2_with (go_at_call 24; refine (fits_any _ _ _).mono ?_; rintro e w2 ⟨rfl, rfl⟩)
      go_quiet (fail)
      go_wp2_with fail
      go_quiet (fail)
      go_wp2_with fail
      rw [H.out]
      refine bodyPost_ret (results_tmp4 rfl _ _ _) rfl ⟨rfl, below_drewN (below_drewN (Below.refl _ _) _) _⟩
    · have h'' : secB at_ = false := by simpa using h'
      have H := Lib.hid (show placeV chunk n at_ = .tuple #[.int .i64 0, .int .i64 0, .int .i64 0, .int .i64 1] by simp [placeV, h''])
      have h3 : at_ < 0 ∨ 1073741824 < at_ := by
        rcases Int.lt_or_le at_ 0 with h | h
        · exact .inl h
        · refine .inr (Int.lt_of_not_ge fun hg => h' ((secB_iff _).2 ⟨h, hg⟩))
      clear h' h''
      by_cases h4 : at_ < 0
      all_goals
        go_enter Try.func15, Try.ntmps15
        go_wp2_with (go_at_call 24; refine (fits_any _ _ _).mono ?_; rintro e w2 ⟨rfl, rfl⟩)
        rw [H.out]
        refine bodyPost_ret (results_tmp4 rfl _ _ _) rfl ⟨rfl, Below.refl _ _⟩
  · have h'' : okB chunk n = false := by simpa using h
    have H := Lib.hid (show placeV chunk n at_ = .tuple #[.int .i64 0, .int .i64 0, .int .i64 0, .int .i64 1] by simp [placeV, h''])
    clear h
    go_enter Try.func15, Try.ntmps15
    go_wp2_with (go_at_call 24; refine (fits_any _ _ _).mono ?_; rintro e w2 ⟨rfl, rfl⟩)
    rw [H.out]
    refine bodyPost_ret (results_tmp4 rfl _ _ _) rfl ⟨rfl, Below.refl _ _⟩
end Go.Proofs.Ytbpdliddeakedaa
