/- What the methods of a space map return. -/
import Derived.Test.YtieegbejpabpiaaMap
namespace Go.Proofs.Ytieegbejpabpiaa
open Go.RowKit

def atI (N : List Int) (b : Int) : Int := if hasB N b then N.getD b.toNat 0 else 0
theorem hasB_iff (N : List Int) (b : Int) : hasB N b = true ↔ 0 ≤ b ∧ b < N.length := by simp [hasB]

set_option maxHeartbeats 400000 in
theorem count_any {base : Nat} {w : World} {bm gn cn gw cw lo : Nat} {N O : List Int} (h : MS base w bm gn cn gw cw N O lo) (b : Int) :
    Calls Try.prog 20 #[.pointer (some ⟨bm, 0, none⟩), .int .i64 b] w fun e w' => e = .returned (.int .i64 (atI N b)) ∧ w = w' := by
  have H := Lib.hid (has_any h b)
  have c0 := h.c0
  have hs := h.small
  by_cases hh : hasB N b = true
  · obtain ⟨h0, h1⟩ := (hasB_iff _ _).1 hh
    obtain ⟨k, rfl⟩ := Int.eq_ofNat_of_zero_le h0
    have d0 := h.now.cell (j := k) (by omega)
    have HH := Lib.hid (show atI N (k : Int) = N.getD k 0 by simp [atI, hh])
    generalize N.getD k 0 = x at d0 HH
    clear h
    go_enter Try.func20, Try.ntmps20
    go_wp2_with fail
    refine H.out.mono ?_
    rintro e w1 ⟨rfl, rfl⟩
    go_wp2_with fail
    go_ret
    exact ⟨by rw [HH.out]; rfl, rfl⟩
  · have hh' : hasB N b = false := by simpa using hh
    have HH := Lib.hid (show atI N b = 0 by simp [atI, hh'])
    clear h hh
    go_enter Try.func20, Try.ntmps20
    go_wp2_with fail
    refine H.out.mono ?_
    rintro e w1 ⟨rfl, rfl⟩
    go_wp2_with fail
    go_ret
    exact ⟨by rw [HH.out]; rfl, rfl⟩

set_option maxHeartbeats 400000 in
theorem was_any {base : Nat} {w : World} {bm gn cn gw cw lo : Nat} {N O : List Int} (h : MS base w bm gn cn gw cw N O lo) (b : Int) :
    Calls Try.prog 19 #[.pointer (some ⟨bm, 0, none⟩), .int .i64 b] w fun e w' => e = .returned (.int .i64 (atI O b)) ∧ w = w' := by
  have H := Lib.hid (has_any h b)
  have hlen := h.len
  have c1 := h.c1
  have hs := h.small
  by_cases hh : hasB N b = true
  · obtain ⟨h0, h1⟩ := (hasB_iff _ _).1 hh
    obtain ⟨k, rfl⟩ := Int.eq_ofNat_of_zero_le h0
    have d0 := h.was.cell (j := k) (by omega)
    have HH := Lib.hid (show atI O (k : Int) = O.getD k 0 by have : hasB O (k : Int) = true := (hasB_iff _ _).2 ⟨by omega, by omega⟩; simp [atI, this])
    generalize O.getD k 0 = x at d0 HH
    clear h hlen
    go_enter Try.func19, Try.ntmps19
    go_wp2_with fail
    refine H.out.mono ?_
    rintro e w1 ⟨rfl, rfl⟩
    go_wp2_with fail
    go_ret
    exact ⟨by rw [HH.out]; rfl, rfl⟩
  · have hh' : hasB N b = false := by simpa using hh
    have HH := Lib.hid (show atI O b = 0 by
      have hO : hasB O b = false := by unfold hasB at hh' ⊢; rw [hlen]; exact hh'
      simp [atI, hO])
    clear h hh hlen
    go_enter Try.func19, Try.ntmps19
    go_wp2_with fail
    refine H.out.mono ?_
    rintro e w1 ⟨rfl, rfl⟩
    go_wp2_with fail
    go_ret
    exact ⟨by rw [HH.out]; rfl, rfl⟩

set_option maxHeartbeats 400000 in
theorem len_any {base : Nat} {w : World} {bm gn cn gw cw lo : Nat} {N O : List Int} (h : MS base w bm gn cn gw cw N O lo) :
    Calls Try.prog 29 #[.pointer (some ⟨bm, 0, none⟩)] w fun e w' => e = .returned (.int .i64 N.length) ∧ w = w' := by
  have c0 := h.c0
  have hs := h.small
  clear h
  go_enter Try.func29, Try.ntmps29
  go_wp2_with fail
  go_ret
  exact ⟨rfl, rfl⟩

/-- what Inc answers -/
def incE (N : List Int) (b : Int) : Int := if hasB N b then (if N.getD b.toNat 0 = 0 then 12 else if N.getD b.toNat 0 = 65535 then 4 else 0) else 1
def incN (N : List Int) (b : Int) : List Int := if incE N b = 0 then N.set b.toNat (N.getD b.toNat 0 + 1) else N
def decE (N : List Int) (b : Int) : Int := if hasB N b then (if N.getD b.toNat 0 = 0 then 12 else 0) else 1
def decN (N : List Int) (b : Int) : List Int := if decE N b = 0 then N.set b.toNat (N.getD b.toNat 0 - 1) else N

/-- a call of a method that may change the map -/
def MRet (base bm gn cn gw cw : Nat) (v : Value) (N O : List Int) (w : World) (e : Ending) (w' : World) : Prop :=
  e = .returned v ∧ (∃ lo, MS base w' bm gn cn gw cw N O lo ∧ LowOk N O lo) ∧ Only (FM bm gn gw) w w'

theorem getD_set (l : List Int) (k j : Nat) (z : Int) (h : k < l.length) : (l.set k z).getD j 0 = if j = k then z else l.getD j 0 := by
  rw [List.getD_eq_getElem?_getD, List.getElem?_set]
  by_cases e : k = j
  · subst e; simp [h]
  · simp [e, show ¬ j = k from fun h => e h.symm]
theorem rng_at {l : List Int} (h : ∀ z ∈ l, 0 ≤ z ∧ z ≤ 65535) (k : Nat) : 0 ≤ l.getD k 0 ∧ l.getD k 0 ≤ 65535 := by
  rw [List.getD_eq_getElem?_getD]
  cases hk : l[k]? with
  | none => simp
  | some z => exact h z (List.mem_of_getElem? hk)
theorem rng_set {l : List Int} (h : ∀ z ∈ l, 0 ≤ z ∧ z ≤ 65535) (k : Nat) (z : Int) (hz : 0 ≤ z ∧ z ≤ 65535) : ∀ y ∈ l.set k z, 0 ≤ y ∧ y ≤ 65535 := by
  intro y hy
  rcases List.mem_or_eq_of_mem_set hy with hy | rfl
  · exact h y hy
  · exact hz

/-- the map behind a store of a present count -/
theorem MS.put {base : Nat} {w : World} {bm gn cn gw cw lo : Nat} {N O : List Int} (h : MS base w bm gn cn gw cw N O lo) (k : Nat) (z : Int) (hz : 0 ≤ z ∧ z ≤ 65535) :
    MS base (w.setCell ⟨gn, k, none⟩ (.int .i64 z)) bm gn cn gw cw (N.set k z) O lo ∧ Only (FM bm gn gw) w (w.setCell ⟨gn, k, none⟩ (.int .i64 z)) := by
  have hb := h.bn
  have ho : Only (· = gn) w (w.setCell ⟨gn, k, none⟩ (.int .i64 z)) := (Only.refl (· = gn) w).setCell (p := ⟨gn, k, none⟩) (.inl rfl) _
  refine ⟨⟨?_, by rw [List.length_set]; exact h.len, by rw [List.length_set]; exact h.pos, by rw [List.length_set]; exact h.small, h.now.put k z, h.was.only ho (fun e => h.ne e.symm), h.ne, h.bb, by rw [List.length_set]; exact h.lon, rng_set h.rng k z hz, h.rngO⟩, ho.mono (fun j _ e => .inr (.inl e))⟩
  rw [List.length_set]
  exact h.blk.only ho hb.1
theorem LowOk.put {N O : List Int} {lo : Nat} (h : LowOk N O lo) {k : Nat} (hk : k < N.length) (z : Int) (hlo : z ≠ 0 ∨ lo ≤ k ∨ O.getD k 0 ≠ 0) : LowOk (N.set k z) O lo := by
  intro b hbl
  rw [getD_set N k b z hk]
  by_cases e : b = k
  · subst e
    rw [if_pos rfl]
    rcases hlo with h1 | h1 | h1
    · exact .inl h1
    · omega
    · exact .inr h1
  · rw [if_neg e]
    exact h b hbl
/-- the map behind a store of low -/
theorem MS.putLow {base : Nat} {w : World} {bm gn cn gw cw lo : Nat} {N O : List Int} (h : MS base w bm gn cn gw cw N O lo) (lo' : Nat) (h1 : lo' ≤ N.length) :
    MS base (w.setCell ⟨bm, 2, none⟩ (.int .i64 lo')) bm gn cn gw cw N O lo' ∧ Only (FM bm gn gw) w (w.setCell ⟨bm, 2, none⟩ (.int .i64 lo')) := by
  have hb := h.bn
  have ho : Only (· = bm) w (w.setCell ⟨bm, 2, none⟩ (.int .i64 lo')) := (Only.refl (· = bm) w).setCell (p := ⟨bm, 2, none⟩) (.inl rfl) _
  have hs := h.blk.set_ 2 (.int .i64 lo')
  exact ⟨⟨by simpa using hs, h.len, h.pos, h.small, h.now.only ho (fun e => hb.1 e.symm), h.was.only ho (fun e => hb.2 e.symm), h.ne, h.bb, h1, h.rng, h.rngO⟩, ho.mono (fun j _ e => .inl e)⟩

set_option maxHeartbeats 1000000 in
theorem inc_any {base : Nat} {w : World} {bm gn cn gw cw lo : Nat} {N O : List Int} (h : MS base w bm gn cn gw cw N O lo) (hL : LowOk N O lo) (b : Int) :
    Calls Try.prog 30 #[.pointer (some ⟨bm, 0, none⟩), .int .i64 b] w (MRet base bm gn cn gw cw (.int .i64 (incE N b)) (incN N b) O w) := by
  have H := Lib.hid (has_any h b)
  have HM := Lib.hid h
  have HL := Lib.hid hL
  clear hL
  have c0 := h.c0
  have hs := h.small
  by_cases hh : hasB N b = true
  · obtain ⟨h0, h1⟩ := (hasB_iff _ _).1 hh
    obtain ⟨k, rfl⟩ := Int.eq_ofNat_of_zero_le h0
    have hk : k < N.length := by omega
    have d0 := h.now.cell hk
    have f0 := h.now.frozen k
    have hr := rng_at h.rng k
    by_cases hx : N.getD k 0 = 0
    · have HE := Lib.hid (show incE N (k : Int) = 12 by simp only [incE, hh, if_true, Int.toNat_natCast, hx])
      have HN := Lib.hid (show incN N (k : Int) = N by rw [incN, HE.out, if_neg (by decide)])
      have hx' : (N.getD k 0 == 0) = true := by simp only [hx]; rfl
      generalize N.getD k 0 = x at *
      clear h hx
      go_enter Try.func30, Try.ntmps30
      go_wp2_with fail
      refine H.out.mono ?_
      rintro e w1 ⟨rfl, rfl⟩
      go_wp2_with fail
      go_ret
      exact ⟨by rw [HE.out]; rfl, by rw [HN.out]; exact ⟨lo, HM.out, HL.out⟩, Only.refl _ _⟩
    · have hx' : (N.getD k 0 == 0) = false := beq_eq_false_iff_ne.2 hx
      by_cases hy : N.getD k 0 = 65535
      · have HE := Lib.hid (show incE N (k : Int) = 4 by simp only [incE, hh, if_true, Int.toNat_natCast]; rw [if_neg hx, if_pos hy])
        have HN := Lib.hid (show incN N (k : Int) = N by rw [incN, HE.out, if_neg (by decide)])
        have hy' : (N.getD k 0 == 65535) = true := beq_iff_eq.2 hy
        generalize N.getD k 0 = x at *
        clear h hx hy
        go_enter Try.func30, Try.ntmps30
        go_wp2_with fail
        refine H.out.mono ?_
        rintro e w1 ⟨rfl, rfl⟩
        go_wp2_with fail
        go_ret
        exact ⟨by rw [HE.out]; rfl, by rw [HN.out]; exact ⟨lo, HM.out, HL.out⟩, Only.refl _ _⟩
      · have HE := Lib.hid (show incE N (k : Int) = 0 by simp only [incE, hh, if_true, Int.toNat_natCast]; rw [if_neg hx, if_neg hy])
        have HN := Lib.hid (show incN N (k : Int) = N.set k (N.getD k 0 + 1) by rw [incN, HE.out, if_pos rfl]; simp)
        have hy' : (N.getD k 0 == 65535) = false := beq_eq_false_iff_ne.2 hy
        have HP := Lib.hid (h.put k (N.getD k 0 + 1) (by omega))
        have HQ := Lib.hid (HL.out.put hk (N.getD k 0 + 1) (.inl (by omega)))
        generalize N.getD k 0 = x at *
        clear h hx hy
        go_enter Try.func30, Try.ntmps30
        go_wp2_with fail
        refine H.out.mono ?_
        rintro e w1 ⟨rfl, rfl⟩
        go_wp2_with fail
        go_ret
        exact ⟨by rw [HE.out]; rfl, by rw [HN.out]; exact ⟨lo, HP.out.1, HQ.out⟩, HP.out.2⟩
  · have hh' : hasB N b = false := by simpa using hh
    have HE := Lib.hid (show incE N b = 1 by simp [incE, hh'])
    have HN := Lib.hid (show incN N b = N by rw [incN, HE.out, if_neg (by decide)])
    clear h hh
    go_enter Try.func30, Try.ntmps30
    go_wp2_with fail
    refine H.out.mono ?_
    rintro e w1 ⟨rfl, rfl⟩
    go_wp2_with fail
    go_ret
    exact ⟨by rw [HE.out]; rfl, by rw [HN.out]; exact ⟨lo, HM.out, HL.out⟩, Only.refl _ _⟩
end Go.Proofs.Ytieegbejpabpiaa
