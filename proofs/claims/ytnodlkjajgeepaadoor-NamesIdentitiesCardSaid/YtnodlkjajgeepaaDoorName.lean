/- Names and tags: the program's and the reference's tests agree. -/
import Derived.Test.YtnodlkjajgeepaaDoorSet
namespace Go.Proofs.YtnodlkjajgeepaaDoor
open Go.RowKit

/-- the byte n is in the text m -/
def withinB (n : Nat) (m : ByteArray) : Bool := m.data.toList.any (fun d => d.toNat == n)
theorem any_hit {l : List UInt8} {k : Nat} {c : UInt8} {f : UInt8 → Bool} (h : l[k]? = some c) (hf : f c = true) : l.any f = true := List.any_eq_true.2 ⟨c, List.mem_of_getElem? h, hf⟩
theorem any_more {l : List UInt8} {k : Nat} {c : UInt8} {f : UInt8 → Bool} (h : l[k]? = some c) (hf : f c = false) (ht : (l.take k).any f = false) : (l.take (k + 1)).any f = false := by
  rw [List.take_add_one, h, List.any_append, ht]
  simp [hf]
theorem take_all (s : ByteArray) : s.data.toList.take s.size = s.data.toList := List.take_of_length_le (by rw [Array.length_toList]; exact Nat.le_refl _)

set_option maxRecDepth 100000 in
set_option maxHeartbeats 4000000 in
theorem within_any (n : Nat) (m : ByteArray) (w : World) (hm : m.size ≤ 100000) :
    Calls Tryd.prog 51 #[.int .u8 n, .string m] w (fun e w' => e = .returned (.bool (withinB n m)) ∧ w = w') := by
  go_enter Tryd.func51, Tryd.ntmps51
  go_wp2_with fail
  go_loop [5] (fun i => ∃ k : Nat, k ≤ m.size ∧ i = .int .i64 (k : Int) ∧ ((m.data.toList.take k).any (fun d => d.toNat == n)) = false) (fun c => m.size - (intOf c).toNat)
  case atStart => exact ⟨0, by omega, rfl, rfl⟩
  case round =>
    obtain ⟨k, hk, rfl, ht⟩ := hrel
    have HT := Lib.hid ht
    clear ht
    by_cases hlt : k < m.size
    · have i0 : (k : Int) < (m.size : Int) := by omega
      have HX := Lib.hid (byte_at m k hlt)
      generalize hc : m[k].toNat = x
      by_cases h : x = n
      · subst h
        have HF := Lib.hid (show withinB x m = true from any_hit HX.out (by rw [hc]; simp))
        go_wp2_with fail
        go_ret
        exact ⟨by rw [HF.out]; rfl, rfl⟩
      · have HV := Lib.hid (any_more (f := fun d => d.toNat == n) HX.out (by rw [hc]; simpa using h) HT.out)
        have hb : ((x : Int) == (n : Int)) = false := by rw [beq_eq_false_iff_ne]; omega
        clear h
        go_wp2_with fail
        go_round
        case rel => exact ⟨k + 1, by omega, by go_num, HV.out⟩
        case measure => simp [intOf]; omega
    · obtain rfl : k = m.size := by omega
      have HF := Lib.hid (show withinB n m = false by unfold withinB; rw [← HT.out, take_all])
      go_wp2_with fail
      go_ret
      exact ⟨by rw [HF.out]; rfl, rfl⟩

def alnum (n : Nat) : Bool := (decide (97 ≤ n) && decide (n ≤ 122)) || (decide (65 ≤ n) && decide (n ≤ 90)) || (decide (48 ≤ n) && decide (n ≤ 57))
def okN (m : ByteArray) (n : Nat) : Bool := alnum n || withinB n m
def headN (s : ByteArray) : Nat := (s.data.toList.getD 0 0).toNat
/-- a text of 1 to most bytes, all of them letters, digits or of others, the first one not of bad -/
def consistsB (s others bad : ByteArray) (most : Nat) : Bool := decide (1 ≤ s.size) && decide (s.size ≤ most) && (s.data.toList.all fun c => okN others c.toNat) && !withinB (headN s) bad
theorem head_eq (s : ByteArray) (h : 0 < s.size) : s[0].toNat = headN s := by
  unfold headN
  rw [List.getD_eq_getElem?_getD, byte_at s 0 h]
  rfl
theorem consists_short {s others bad : ByteArray} {most : Nat} (h : s.size = 0 ∨ most < s.size) : consistsB s others bad most = false := by
  unfold consistsB
  rcases h with h | h
  · simp [show ¬ 1 ≤ s.size by omega]
  · simp [show ¬ s.size ≤ most by omega]
theorem consists_all {s others bad : ByteArray} {most : Nat} (h : (s.data.toList.all fun c => okN others c.toNat) = false) : consistsB s others bad most = false := by
  unfold consistsB
  rw [h]
  simp
theorem consists_head {s others bad : ByteArray} {most : Nat} (h : withinB (headN s) bad = true) : consistsB s others bad most = false := by
  unfold consistsB
  rw [h]
  simp
theorem consists_good {s others bad : ByteArray} {most : Nat} (h1 : 1 ≤ s.size) (h2 : s.size ≤ most) (h3 : (s.data.toList.all fun c => okN others c.toNat) = true) (h4 : withinB (headN s) bad = false) : consistsB s others bad most = true := by
  unfold consistsB
  rw [h3, h4]
  simp [h1, h2]

set_option maxRecDepth 100000 in
set_option maxHeartbeats 8000000 in
theorem consists_any (s others bad : ByteArray) (most : Nat) (w : World) (hs : s.size ≤ 9223372036854775807) (hm : most ≤ 1000) (ho : others.size ≤ 1000) (hbd : bad.size ≤ 1000) :
    Calls Tryd.prog 48 #[.string s, .string others, .string bad, .int .i64 most] w (fun e w' => e = .returned (.bool (consistsB s others bad most)) ∧ w = w') := by
  by_cases h0 : s.size = 0 ∨ most < s.size
  · have HF := Lib.hid (consists_short (others := others) (bad := bad) h0)
    go_enter Tryd.func48, Tryd.ntmps48
    rcases h0 with h0 | h0
    · have i0 : (s.size : Int) < 1 := by omega
      go_wp2_with fail
      go_ret
      exact ⟨by rw [HF.out]; rfl, rfl⟩
    · have i0 : ¬ (s.size : Int) < 1 := by omega
      have i1 : (most : Int) < (s.size : Int) := by omega
      go_wp2_with fail
      go_ret
      exact ⟨by rw [HF.out]; rfl, rfl⟩
  · have i0 : ¬ (s.size : Int) < 1 := by omega
    have i1 : ¬ (most : Int) < (s.size : Int) := by omega
    have HO := Lib.hid ho
    have HBD := Lib.hid hbd
    have H1 := Lib.hid (show 1 ≤ s.size by omega)
    have H2 := Lib.hid (show s.size ≤ most by omega)
    clear h0 ho hbd
    go_enter Tryd.func48, Tryd.ntmps48
    go_wp2_with fail
    go_loop [9] (fun i => ∃ k : Nat, k ≤ s.size ∧ i = .int .i64 (k : Int) ∧ ((s.data.toList.take k).all fun c => okN others c.toNat) = true ∧ (0 < k → withinB (headN s) bad = false)) (fun c => s.size - (intOf c).toNat)
    case atStart => exact ⟨0, by omega, rfl, rfl, fun h => absurd h (by omega)⟩
    case round =>
      obtain ⟨k, hk, rfl, ht, hh⟩ := hrel
      have HT := Lib.hid ht
      have HH := Lib.hid hh
      clear ht hh
      by_cases hlt : k < s.size
      · have j0 : (k : Int) < (s.size : Int) := by omega
        have HX := Lib.hid (byte_at s k hlt)
        have HZ := Lib.hid (show k = 0 → s[k].toNat = headN s from fun e => by subst e; exact head_eq s hlt)
        generalize hc : s[k].toNat = n at HZ
        have HW := Lib.hid (within_any n others w (by have := HO.out; omega))
        have HV := Lib.hid (within_any n bad w (by have := HBD.out; omega))
        have HC := Lib.hid hc
        by_cases hal : alnum n = true
        · have HOK := Lib.hid (show okN others n = true by unfold okN; rw [hal]; rfl)
          have HA := Lib.hid (all_more (f := fun c => okN others c.toNat) HX.out (by rw [HC.out]; exact HOK.out) HT.out)
          unfold alnum at hal
          simp only [Bool.or_eq_true, Bool.and_eq_true, decide_eq_true_eq] at hal
          rcases (show (97 ≤ n ∧ n ≤ 122) ∨ (n < 97 ∧ 65 ≤ n ∧ n ≤ 90) ∨ (n < 65 ∧ 48 ≤ n ∧ n ≤ 57) by omega) with hr | hr | hr
          · clear hal HW
            have p0 : 97 ≤ (n : Int) := by omega
            have p1 : (n : Int) ≤ 122 := by omega
            clear hr
            by_cases hk0 : k = 0
            · subst hk0
              go_wp2_with fail
              refine HV.out.mono ?_
              rintro e w1 ⟨rfl, rfl⟩
              cases hv : withinB n bad with
              | true =>
                have HF := Lib.hid (consists_head (s := s) (others := others) (bad := bad) (most := most) (by rw [← HZ.out (by trivial)]; exact hv))
                clear hv
                go_wp2_with fail
                go_ret
                exact ⟨by rw [HF.out]; rfl, rfl⟩
              | false =>
                have HF := Lib.hid (show withinB (headN s) bad = false by rw [← HZ.out (by trivial)]; exact hv)
                clear hv
                go_wp2_with fail
                go_round
                case rel => exact ⟨1, by omega, by go_num, HA.out, fun _ => HF.out⟩
                case measure => simp [intOf]; omega
            · have q0 : ((k : Int) == 0) = false := by rw [beq_eq_false_iff_ne]; omega
              have HK := Lib.hid hk0
              clear hk0
              go_wp2_with fail
              go_round
              case rel => exact ⟨k + 1, by omega, by go_num, HA.out, fun _ => HH.out (by have := HK.out; omega)⟩
              case measure => simp [intOf]; omega
          · clear hal HW
            have p0 : ¬ 97 ≤ (n : Int) := by omega
            have p1 : 65 ≤ (n : Int) := by omega
            have p2 : (n : Int) ≤ 90 := by omega
            clear hr
            by_cases hk0 : k = 0
            · subst hk0
              go_wp2_with fail
              refine HV.out.mono ?_
              rintro e w1 ⟨rfl, rfl⟩
              cases hv : withinB n bad with
              | true =>
                have HF := Lib.hid (consists_head (s := s) (others := others) (bad := bad) (most := most) (by rw [← HZ.out (by trivial)]; exact hv))
                clear hv
                go_wp2_with fail
                go_ret
                exact ⟨by rw [HF.out]; rfl, rfl⟩
              | false =>
                have HF := Lib.hid (show withinB (headN s) bad = false by rw [← HZ.out (by trivial)]; exact hv)
                clear hv
                go_wp2_with fail
                go_round
                case rel => exact ⟨1, by omega, by go_num, HA.out, fun _ => HF.out⟩
                case measure => simp [intOf]; omega
            · have q0 : ((k : Int) == 0) = false := by rw [beq_eq_false_iff_ne]; omega
              have HK := Lib.hid hk0
              clear hk0
              go_wp2_with fail
              go_round
              case rel => exact ⟨k + 1, by omega, by go_num, HA.out, fun _ => HH.out (by have := HK.out; omega)⟩
              case measure => simp [intOf]; omega
          · clear hal HW
            have p0 : ¬ 97 ≤ (n : Int) := by omega
            have p1 : ¬ 65 ≤ (n : Int) := by omega
            have p2 : 48 ≤ (n : Int) := by omega
            have p3 : (n : Int) ≤ 57 := by omega
            clear hr
            by_cases hk0 : k = 0
            · subst hk0
              go_wp2_with fail
              refine HV.out.mono ?_
              rintro e w1 ⟨rfl, rfl⟩
              cases hv : withinB n bad with
              | true =>
                have HF := Lib.hid (consists_head (s := s) (others := others) (bad := bad) (most := most) (by rw [← HZ.out (by trivial)]; exact hv))
                clear hv
                go_wp2_with fail
                go_ret
                exact ⟨by rw [HF.out]; rfl, rfl⟩
              | false =>
                have HF := Lib.hid (show withinB (headN s) bad = false by rw [← HZ.out (by trivial)]; exact hv)
                clear hv
                go_wp2_with fail
                go_round
                case rel => exact ⟨1, by omega, by go_num, HA.out, fun _ => HF.out⟩
                case measure => simp [intOf]; omega
            · have q0 : ((k : Int) == 0) = false := by rw [beq_eq_false_iff_ne]; omega
              have HK := Lib.hid hk0
              clear hk0
              go_wp2_with fail
              go_round
              case rel => exact ⟨k + 1, by omega, by go_num, HA.out, fun _ => HH.out (by have := HK.out; omega)⟩
              case measure => simp [intOf]; omega
        · have hal' := hal
          unfold alnum at hal'
          simp only [Bool.or_eq_true, Bool.and_eq_true, decide_eq_true_eq] at hal'
          have HAL := Lib.hid (show alnum n = false by simpa using hal)
          clear hal
          rcases (show n < 48 ∨ (57 < n ∧ n < 65) ∨ (90 < n ∧ n < 97) ∨ 122 < n by omega) with hr | hr | hr | hr
          · clear hal'
            have p0 : ¬ 97 ≤ (n : Int) := by omega
            have p1 : ¬ 65 ≤ (n : Int) := by omega
            have p2 : ¬ 48 ≤ (n : Int) := by omega
            clear hr
            go_wp2_with fail
            refine HW.out.mono ?_
            rintro e w1 ⟨rfl, rfl⟩
            cases hw : withinB n others with
            | false =>
              have HF := Lib.hid (consists_all (s := s) (others := others) (bad := bad) (most := most) (all_miss HX.out (by rw [HC.out]; unfold okN; rw [HAL.out, hw]; rfl)))
              clear hw
              go_wp2_with fail
              go_ret
              exact ⟨by rw [HF.out]; rfl, rfl⟩
            | true =>
              have HA := Lib.hid (all_more (f := fun c => okN others c.toNat) HX.out (by rw [HC.out]; unfold okN; rw [hw]; simp) HT.out)
              clear hw
              by_cases hk0 : k = 0
              · subst hk0
                go_wp2_with fail
                refine HV.out.mono ?_
                rintro e w1 ⟨rfl, rfl⟩
                cases hv : withinB n bad with
                | true =>
                  have HF := Lib.hid (consists_head (s := s) (others := others) (bad := bad) (most := most) (by rw [← HZ.out (by trivial)]; exact hv))
                  clear hv
                  go_wp2_with fail
                  go_ret
                  exact ⟨by rw [HF.out]; rfl, rfl⟩
                | false =>
                  have HF := Lib.hid (show withinB (headN s) bad = false by rw [← HZ.out (by trivial)]; exact hv)
                  clear hv
                  go_wp2_with fail
                  go_round
                  case rel => exact ⟨1, by omega, by go_num, HA.out, fun _ => HF.out⟩
                  case measure => simp [intOf]; omega
              · have q0 : ((k : Int) == 0) = false := by rw [beq_eq_false_iff_ne]; omega
                have HK := Lib.hid hk0
                clear hk0
                go_wp2_with fail
                go_round
                case rel => exact ⟨k + 1, by omega, by go_num, HA.out, fun _ => HH.out (by have := HK.out; omega)⟩
                case measure => simp [intOf]; omega
          · clear hal'
            have p0 : ¬ 97 ≤ (n : Int) := by omega
            have p1 : ¬ 65 ≤ (n : Int) := by omega
            have p2 : 48 ≤ (n : Int) := by omega
            have p3 : ¬ (n : Int) ≤ 57 := by omega
            clear hr
            go_wp2_with fail
            refine HW.out.mono ?_
            rintro e w1 ⟨rfl, rfl⟩
            cases hw : withinB n others with
            | false =>
              have HF := Lib.hid (consists_all (s := s) (others := others) (bad := bad) (most := most) (all_miss HX.out (by rw [HC.out]; unfold okN; rw [HAL.out, hw]; rfl)))
              clear hw
              go_wp2_with fail
              go_ret
              exact ⟨by rw [HF.out]; rfl, rfl⟩
            | true =>
              have HA := Lib.hid (all_more (f := fun c => okN others c.toNat) HX.out (by rw [HC.out]; unfold okN; rw [hw]; simp) HT.out)
              clear hw
              by_cases hk0 : k = 0
              · subst hk0
                go_wp2_with fail
                refine HV.out.mono ?_
                rintro e w1 ⟨rfl, rfl⟩
                cases hv : withinB n bad with
                | true =>
                  have HF := Lib.hid (consists_head (s := s) (others := others) (bad := bad) (most := most) (by rw [← HZ.out (by trivial)]; exact hv))
                  clear hv
                  go_wp2_with fail
                  go_ret
                  exact ⟨by rw [HF.out]; rfl, rfl⟩
                | false =>
                  have HF := Lib.hid (show withinB (headN s) bad = false by rw [← HZ.out (by trivial)]; exact hv)
                  clear hv
                  go_wp2_with fail
                  go_round
                  case rel => exact ⟨1, by omega, by go_num, HA.out, fun _ => HF.out⟩
                  case measure => simp [intOf]; omega
              · have q0 : ((k : Int) == 0) = false := by rw [beq_eq_false_iff_ne]; omega
                have HK := Lib.hid hk0
                clear hk0
                go_wp2_with fail
                go_round
                case rel => exact ⟨k + 1, by omega, by go_num, HA.out, fun _ => HH.out (by have := HK.out; omega)⟩
                case measure => simp [intOf]; omega
          · clear hal'
            have p0 : ¬ 97 ≤ (n : Int) := by omega
            have p1 : 65 ≤ (n : Int) := by omega
            have p2 : ¬ (n : Int) ≤ 90 := by omega
            have p3 : 48 ≤ (n : Int) := by omega
            have p4 : ¬ (n : Int) ≤ 57 := by omega
            clear hr
            go_wp2_with fail
            refine HW.out.mono ?_
            rintro e w1 ⟨rfl, rfl⟩
            cases hw : withinB n others with
            | false =>
              have HF := Lib.hid (consists_all (s := s) (others := others) (bad := bad) (most := most) (all_miss HX.out (by rw [HC.out]; unfold okN; rw [HAL.out, hw]; rfl)))
              clear hw
              go_wp2_with fail
              go_ret
              exact ⟨by rw [HF.out]; rfl, rfl⟩
            | true =>
              have HA := Lib.hid (all_more (f := fun c => okN others c.toNat) HX.out (by rw [HC.out]; unfold okN; rw [hw]; simp) HT.out)
              clear hw
              by_cases hk0 : k = 0
              · subst hk0
                go_wp2_with fail
                refine HV.out.mono ?_
                rintro e w1 ⟨rfl, rfl⟩
                cases hv : withinB n bad with
                | true =>
                  have HF := Lib.hid (consists_head (s := s) (others := others) (bad := bad) (most := most) (by rw [← HZ.out (by trivial)]; exact hv))
                  clear hv
                  go_wp2_with fail
                  go_ret
                  exact ⟨by rw [HF.out]; rfl, rfl⟩
                | false =>
                  have HF := Lib.hid (show withinB (headN s) bad = false by rw [← HZ.out (by trivial)]; exact hv)
                  clear hv
                  go_wp2_with fail
                  go_round
                  case rel => exact ⟨1, by omega, by go_num, HA.out, fun _ => HF.out⟩
                  case measure => simp [intOf]; omega
              · have q0 : ((k : Int) == 0) = false := by rw [beq_eq_false_iff_ne]; omega
                have HK := Lib.hid hk0
                clear hk0
                go_wp2_with fail
                go_round
                case rel => exact ⟨k + 1, by omega, by go_num, HA.out, fun _ => HH.out (by have := HK.out; omega)⟩
                case measure => simp [intOf]; omega
          · clear hal'
            have p0 : 97 ≤ (n : Int) := by omega
            have p1 : ¬ (n : Int) ≤ 122 := by omega
            have p2 : 65 ≤ (n : Int) := by omega
            have p3 : ¬ (n : Int) ≤ 90 := by omega
            have p4 : 48 ≤ (n : Int) := by omega
            have p5 : ¬ (n : Int) ≤ 57 := by omega
            clear hr
            go_wp2_with fail
            refine HW.out.mono ?_
            rintro e w1 ⟨rfl, rfl⟩
            cases hw : withinB n others with
            | false =>
              have HF := Lib.hid (consists_all (s := s) (others := others) (bad := bad) (most := most) (all_miss HX.out (by rw [HC.out]; unfold okN; rw [HAL.out, hw]; rfl)))
              clear hw
              go_wp2_with fail
              go_ret
              exact ⟨by rw [HF.out]; rfl, rfl⟩
            | true =>
              have HA := Lib.hid (all_more (f := fun c => okN others c.toNat) HX.out (by rw [HC.out]; unfold okN; rw [hw]; simp) HT.out)
              clear hw
              by_cases hk0 : k = 0
              · subst hk0
                go_wp2_with fail
                refine HV.out.mono ?_
                rintro e w1 ⟨rfl, rfl⟩
                cases hv : withinB n bad with
                | true =>
                  have HF := Lib.hid (consists_head (s := s) (others := others) (bad := bad) (most := most) (by rw [← HZ.out (by trivial)]; exact hv))
                  clear hv
                  go_wp2_with fail
                  go_ret
                  exact ⟨by rw [HF.out]; rfl, rfl⟩
                | false =>
                  have HF := Lib.hid (show withinB (headN s) bad = false by rw [← HZ.out (by trivial)]; exact hv)
                  clear hv
                  go_wp2_with fail
                  go_round
                  case rel => exact ⟨1, by omega, by go_num, HA.out, fun _ => HF.out⟩
                  case measure => simp [intOf]; omega
              · have q0 : ((k : Int) == 0) = false := by rw [beq_eq_false_iff_ne]; omega
                have HK := Lib.hid hk0
                clear hk0
                go_wp2_with fail
                go_round
                case rel => exact ⟨k + 1, by omega, by go_num, HA.out, fun _ => HH.out (by have := HK.out; omega)⟩
                case measure => simp [intOf]; omega
      · obtain rfl : k = s.size := by omega
        have HF := Lib.hid (consists_good H1.out H2.out (by rw [← HT.out, take_all]) (HH.out (by have := H1.out; omega)))
        go_wp2_with fail
        go_ret
        exact ⟨by rw [HF.out]; rfl, rfl⟩
end Go.Proofs.YtnodlkjajgeepaaDoor
