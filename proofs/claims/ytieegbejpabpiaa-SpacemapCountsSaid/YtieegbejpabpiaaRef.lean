/- The reference's space map in memory, and what its functions return. -/
import Derived.Test.YtieegbejpabpiaaMeth4
namespace Go.Proofs.Ytieegbejpabpiaa
open Go.RowKit

/-- the reference's map: present counts N, committed counts O -/
structure RS (base : Nat) (w : World) (br gn cn go co : Nat) (N O : List Int) : Prop where
  blk : Blk w br 54 #[sl gn N.length cn, sl go N.length co]
  len : O.length = N.length
  pos : 1 ≤ N.length
  small : N.length ≤ 16384
  now : Row base w gn cn N
  old : Row base w go co O
  ne : gn ≠ go
  bb : base ≤ br
  rng : ∀ z ∈ N, 0 ≤ z ∧ z ≤ 65535
  rngO : ∀ z ∈ O, 0 ≤ z ∧ z ≤ 65535

section
variable {base : Nat} {w w' : World} {br gn cn go co : Nat} {N O : List Int} {F : Nat → Prop}
theorem RS.only (h : RS base w br gn cn go co N O) (ho : Only F w w') (h1 : ¬ F br) (h2 : ¬ F gn) (h3 : ¬ F go) : RS base w' br gn cn go co N O :=
  ⟨h.blk.only ho h1, h.len, h.pos, h.small, h.now.only ho h2, h.old.only ho h3, h.ne, h.bb, h.rng, h.rngO⟩
theorem RS.below (h : RS base w br gn cn go co N O) (hb : Below w.heap.size w w') : RS base w' br gn cn go co N O := h.only (Only.of_below (fun _ => False) hb) (fun h => h) (fun h => h) (fun h => h)
theorem RS.drewN (h : RS base w br gn cn go co N O) (n : Nat) : RS base (w.drewN n) br gn cn go co N O := h.below (below_drewN (Below.refl _ _) n)
theorem RS.c0 (h : RS base w br gn cn go co N O) : w.cell? ⟨br, 0, none⟩ = some (sl gn N.length cn) := by rw [h.blk.cell]; rfl
theorem RS.c1 (h : RS base w br gn cn go co N O) : w.cell? ⟨br, 1, none⟩ = some (sl go N.length co) := by rw [h.blk.cell]; rfl
theorem RS.bn (h : RS base w br gn cn go co N O) : br ≠ gn ∧ br ≠ go := ⟨(h.now.ne_blk h.blk (by decide)).symm, (h.old.ne_blk h.blk (by decide)).symm⟩
theorem RS.put (h : RS base w br gn cn go co N O) (k : Nat) (z : Int) (hz : 0 ≤ z ∧ z ≤ 65535) :
    RS base (w.setCell ⟨gn, k, none⟩ (.int .i64 z)) br gn cn go co (N.set k z) O ∧ Only (FM br gn go) w (w.setCell ⟨gn, k, none⟩ (.int .i64 z)) := by
  have hb := h.bn
  have ho : Only (· = gn) w (w.setCell ⟨gn, k, none⟩ (.int .i64 z)) := (Only.refl (· = gn) w).setCell (p := ⟨gn, k, none⟩) (.inl rfl) _
  refine ⟨⟨?_, by rw [List.length_set]; exact h.len, by rw [List.length_set]; exact h.pos, by rw [List.length_set]; exact h.small, h.now.put k z, h.old.only ho (fun e => h.ne e.symm), h.ne, h.bb, rng_set h.rng k z hz, h.rngO⟩, ho.mono (fun j _ e => .inr (.inl e))⟩
  rw [List.length_set]
  exact h.blk.only ho hb.1
end

/-- a call of a function that may change the counts -/
def RRet (base br gn cn go co : Nat) (v : Value) (N O : List Int) (w : World) (e : Ending) (w' : World) : Prop :=
  e = .returned v ∧ RS base w' br gn cn go co N O ∧ Only (FM br gn go) w w'

set_option maxHeartbeats 400000 in
theorem at_any {base : Nat} {w : World} {g c : Nat} {l : List Int} (h : Row base w g c l) (hs : l.length ≤ 16384) (b : Int) :
    Calls Try.prog 43 #[sl g l.length c, .int .i64 b] w fun e w' => e = .returned (.int .i64 (atI l b)) ∧ w = w' := by
  by_cases hh : hasB l b = true
  · obtain ⟨h0, h1⟩ := (hasB_iff _ _).1 hh
    obtain ⟨k, rfl⟩ := Int.eq_ofNat_of_zero_le h0
    have d0 := h.cell (j := k) (by omega)
    have HH := Lib.hid (show atI l (k : Int) = l.getD k 0 by simp [atI, hh])
    generalize l.getD k 0 = x at d0 HH
    clear h hh
    go_enter Try.func43, Try.ntmps43
    go_wp2_with fail
    go_ret
    exact ⟨by rw [HH.out]; rfl, rfl⟩
  · have hh' : hasB l b = false := by simpa using hh
    have HH := Lib.hid (show atI l b = 0 by simp [atI, hh'])
    by_cases hb : b < 0
    · clear h hh hh'
      go_enter Try.func43, Try.ntmps43
      go_wp2_with fail
      go_ret
      exact ⟨by rw [HH.out]; rfl, rfl⟩
    · have hge : (l.length : Int) ≤ b := by
        have := (not_congr (hasB_iff l b)).1 hh
        omega
      clear h hh hh'
      go_enter Try.func43, Try.ntmps43
      go_wp2_with fail
      go_ret
      exact ⟨by rw [HH.out]; rfl, rfl⟩

set_option maxHeartbeats 400000 in
theorem rcount_any {base : Nat} {w : World} {br gn cn go co : Nat} {N O : List Int} (h : RS base w br gn cn go co N O) (b : Int) :
    Calls Try.prog 21 #[.pointer (some ⟨br, 0, none⟩), .int .i64 b] w fun e w' => e = .returned (.int .i64 (atI N b)) ∧ w = w' := by
  have c0 := h.c0
  have H := Lib.hid (at_any h.now h.small b)
  clear h
  go_enter Try.func21, Try.ntmps21
  go_wp2_with fail
  refine H.out.mono ?_
  rintro e w1 ⟨rfl, rfl⟩
  go_wp2_with fail
  go_ret
  exact ⟨rfl, rfl⟩

set_option maxHeartbeats 400000 in
theorem rwas_any {base : Nat} {w : World} {br gn cn go co : Nat} {N O : List Int} (h : RS base w br gn cn go co N O) (b : Int) :
    Calls Try.prog 34 #[.pointer (some ⟨br, 0, none⟩), .int .i64 b] w fun e w' => e = .returned (.int .i64 (atI O b)) ∧ w = w' := by
  have c1 := h.c1
  have H := Lib.hid (at_any h.old (by rw [h.len]; exact h.small) b)
  rw [h.len] at H
  clear h
  go_enter Try.func34, Try.ntmps34
  go_wp2_with fail
  refine H.out.mono ?_
  rintro e w1 ⟨rfl, rfl⟩
  go_wp2_with fail
  go_ret
  exact ⟨rfl, rfl⟩

set_option maxHeartbeats 1000000 in
theorem rinc_any {base : Nat} {w : World} {br gn cn go co : Nat} {N O : List Int} (h : RS base w br gn cn go co N O) (b : Int) :
    Calls Try.prog 38 #[.pointer (some ⟨br, 0, none⟩), .int .i64 b] w (RRet base br gn cn go co (.int .i64 (incE N b)) (incN N b) O w) := by
  have HM := Lib.hid h
  have c0 := h.c0
  have hs := h.small
  by_cases hh : hasB N b = true
  · obtain ⟨h0, h1⟩ := (hasB_iff _ _).1 hh
    obtain ⟨k, rfl⟩ := Int.eq_ofNat_of_zero_le h0
    have hk : k < N.length := by omega
    have d0 := h.now.cell hk
    have f0 := h.now.frozen k
    have hr := rng_at h.rng k
    by_cases hx : N.getD k 0 = 0
    · have HE := Lib.hid (show incE N (k : Int) = 12 by simp only [incE, hh, if_true, Int.toNat_natCast, hx])
      have HN := Lib.hid (show incN N (k : Int) = N by rw [incN, HE.out, if_neg (by decide)])
      have hx' : (N.getD k 0 == 0) = true := by simp only [hx]; rfl
      generalize N.getD k 0 = x at *
      clear h hx hh
      go_enter Try.func38, Try.ntmps38
      go_wp2_with fail
      go_ret
      exact ⟨by rw [HE.out]; rfl, by rw [HN.out]; exact HM.out, Only.refl _ _⟩
    · have hx' : (N.getD k 0 == 0) = false := beq_eq_false_iff_ne.2 hx
      by_cases hy : N.getD k 0 = 65535
      · have HE := Lib.hid (show incE N (k : Int) = 4 by simp only [incE, hh, if_true, Int.toNat_natCast]; rw [if_neg hx, if_pos hy])
        have HN := Lib.hid (show incN N (k : Int) = N by rw [incN, HE.out, if_neg (by decide)])
        have hy' : (N.getD k 0 == 65535) = true := beq_iff_eq.2 hy
        generalize N.getD k 0 = x at *
        clear h hx hy hh
        go_enter Try.func38, Try.ntmps38
        go_wp2_with fail
        go_ret
        exact ⟨by rw [HE.out]; rfl, by rw [HN.out]; exact HM.out, Only.refl _ _⟩
      · have HE := Lib.hid (show incE N (k : Int) = 0 by simp only [incE, hh, if_true, Int.toNat_natCast]; rw [if_neg hx, if_neg hy])
        have HN := Lib.hid (show incN N (k : Int) = N.set k (N.getD k 0 + 1) by rw [incN, HE.out, if_pos rfl]; simp)
        have hy' : (N.getD k 0 == 65535) = false := beq_eq_false_iff_ne.2 hy
        have HP := Lib.hid (h.put k (N.getD k 0 + 1) (by omega))
        generalize N.getD k 0 = x at *
        clear h hx hy hh
        go_enter Try.func38, Try.ntmps38
        go_wp2_with fail
        go_ret
        exact ⟨by rw [HE.out]; rfl, by rw [HN.out]; exact HP.out.1, HP.out.2⟩
  · have hh' : hasB N b = false := by simpa using hh
    have HE := Lib.hid (show incE N b = 1 by simp [incE, hh'])
    have HN := Lib.hid (show incN N b = N by rw [incN, HE.out, if_neg (by decide)])
    by_cases hb : b < 0
    · clear h hh hh'
      go_enter Try.func38, Try.ntmps38
      go_wp2_with fail
      go_ret
      exact ⟨by rw [HE.out]; rfl, by rw [HN.out]; exact HM.out, Only.refl _ _⟩
    · have hge : (N.length : Int) ≤ b := by
        have := (not_congr (hasB_iff N b)).1 hh
        omega
      clear h hh hh'
      go_enter Try.func38, Try.ntmps38
      go_wp2_with fail
      go_ret
      exact ⟨by rw [HE.out]; rfl, by rw [HN.out]; exact HM.out, Only.refl _ _⟩

set_option maxHeartbeats 1000000 in
theorem rdec_any {base : Nat} {w : World} {br gn cn go co : Nat} {N O : List Int} (h : RS base w br gn cn go co N O) (b : Int) :
    Calls Try.prog 39 #[.pointer (some ⟨br, 0, none⟩), .int .i64 b] w (RRet base br gn cn go co (.int .i64 (decE N b)) (decN N b) O w) := by
  have HM := Lib.hid h
  have c0 := h.c0
  have hs := h.small
  by_cases hh : hasB N b = true
  · obtain ⟨h0, h1⟩ := (hasB_iff _ _).1 hh
    obtain ⟨k, rfl⟩ := Int.eq_ofNat_of_zero_le h0
    have hk : k < N.length := by omega
    have d0 := h.now.cell hk
    have f0 := h.now.frozen k
    have hr := rng_at h.rng k
    by_cases hx : N.getD k 0 = 0
    · have HE := Lib.hid (show decE N (k : Int) = 12 by simp only [decE, hh, if_true, Int.toNat_natCast, hx])
      have HN := Lib.hid (show decN N (k : Int) = N by rw [decN, HE.out, if_neg (by decide)])
      have hx' : (N.getD k 0 == 0) = true := by simp only [hx]; rfl
      generalize N.getD k 0 = x at *
      clear h hx hh
      go_enter Try.func39, Try.ntmps39
      go_wp2_with fail
      go_ret
      exact ⟨by rw [HE.out]; rfl, by rw [HN.out]; exact HM.out, Only.refl _ _⟩
    · have hx' : (N.getD k 0 == 0) = false := beq_eq_false_iff_ne.2 hx
      have HE := Lib.hid (show decE N (k : Int) = 0 by simp only [decE, hh, if_true, Int.toNat_natCast]; rw [if_neg hx])
      have HN := Lib.hid (show decN N (k : Int) = N.set k (N.getD k 0 - 1) by rw [decN, HE.out, if_pos rfl]; simp)
      have HP := Lib.hid (h.put k (N.getD k 0 - 1) (by omega))
      generalize N.getD k 0 = x at *
      clear h hx hh
      go_enter Try.func39, Try.ntmps39
      go_wp2_with fail
      go_ret
      exact ⟨by rw [HE.out]; rfl, by rw [HN.out]; exact HP.out.1, HP.out.2⟩
  · have hh' : hasB N b = false := by simpa using hh
    have HE := Lib.hid (show decE N b = 1 by simp [decE, hh'])
    have HN := Lib.hid (show decN N b = N by rw [decN, HE.out, if_neg (by decide)])
    by_cases hb : b < 0
    · clear h hh hh'
      go_enter Try.func39, Try.ntmps39
      go_wp2_with fail
      go_ret
      exact ⟨by rw [HE.out]; rfl, by rw [HN.out]; exact HM.out, Only.refl _ _⟩
    · have hge : (N.length : Int) ≤ b := by
        have := (not_congr (hasB_iff N b)).1 hh
        omega
      clear h hh hh'
      go_enter Try.func39, Try.ntmps39
      go_wp2_with fail
      go_ret
      exact ⟨by rw [HE.out]; rfl, by rw [HN.out]; exact HM.out, Only.refl _ _⟩

end Go.Proofs.Ytieegbejpabpiaa
