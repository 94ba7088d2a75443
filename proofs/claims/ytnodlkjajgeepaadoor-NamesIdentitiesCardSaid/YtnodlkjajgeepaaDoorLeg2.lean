/- Leg and Part of the program and of the reference. -/
import Derived.Test.YtnodlkjajgeepaaDoorLeg
namespace Go.Proofs.YtnodlkjajgeepaaDoor
open Go.RowKit

def noS : ByteArray := ⟨#[]⟩
def legSuf : Nat → ByteArray
  | 0 => legD 48
  | 1 => legD 49
  | 2 => legD 50
  | 3 => legD 51
  | 4 => legD 52
  | 5 => legD 53
  | 6 => legD 54
  | _ => legD 55
def partSuf : Nat → ByteArray
  | 1 => sLog
  | 2 => sData
  | 3 => sMeta
  | _ => sSpare
def legR (s : ByteArray) (k : Int) : ByteArray × Int := if 0 ≤ k ∧ k ≤ 7 then addR s (legSuf k.toNat) true else addR s noS false
def partR (s : ByteArray) (k : Int) : ByteArray × Int := if 1 ≤ k ∧ k ≤ 4 then addR s (partSuf k.toNat) true else addR s noS false
theorem addR_false (s p q : ByteArray) : addR s p false = addR s q false := rfl
theorem enc48 : ((⟨#[95, 108, 101, 103]⟩ : ByteArray) ++ Utf8.encode 48) = legD 48 := by kernel_rfl
theorem encz48 : (Utf8.encode 48).size = 1 := by kernel_rfl
theorem enc49 : ((⟨#[95, 108, 101, 103]⟩ : ByteArray) ++ Utf8.encode 49) = legD 49 := by kernel_rfl
theorem encz49 : (Utf8.encode 49).size = 1 := by kernel_rfl
theorem enc50 : ((⟨#[95, 108, 101, 103]⟩ : ByteArray) ++ Utf8.encode 50) = legD 50 := by kernel_rfl
theorem encz50 : (Utf8.encode 50).size = 1 := by kernel_rfl
theorem enc51 : ((⟨#[95, 108, 101, 103]⟩ : ByteArray) ++ Utf8.encode 51) = legD 51 := by kernel_rfl
theorem encz51 : (Utf8.encode 51).size = 1 := by kernel_rfl
theorem enc52 : ((⟨#[95, 108, 101, 103]⟩ : ByteArray) ++ Utf8.encode 52) = legD 52 := by kernel_rfl
theorem encz52 : (Utf8.encode 52).size = 1 := by kernel_rfl
theorem enc53 : ((⟨#[95, 108, 101, 103]⟩ : ByteArray) ++ Utf8.encode 53) = legD 53 := by kernel_rfl
theorem encz53 : (Utf8.encode 53).size = 1 := by kernel_rfl
theorem enc54 : ((⟨#[95, 108, 101, 103]⟩ : ByteArray) ++ Utf8.encode 54) = legD 54 := by kernel_rfl
theorem encz54 : (Utf8.encode 54).size = 1 := by kernel_rfl
theorem enc55 : ((⟨#[95, 108, 101, 103]⟩ : ByteArray) ++ Utf8.encode 55) = legD 55 := by kernel_rfl
theorem encz55 : (Utf8.encode 55).size = 1 := by kernel_rfl
theorem dig48 : ((⟨#[95, 108, 101, 103]⟩ : ByteArray) ++ (⟨#[48, 49, 50, 51, 52, 53, 54, 55]⟩ : ByteArray).extract 0 1) = legD 48 := by kernel_rfl
theorem digz48 : ((⟨#[48, 49, 50, 51, 52, 53, 54, 55]⟩ : ByteArray).extract 0 1).size = 1 := by kernel_rfl
theorem dig49 : ((⟨#[95, 108, 101, 103]⟩ : ByteArray) ++ (⟨#[48, 49, 50, 51, 52, 53, 54, 55]⟩ : ByteArray).extract 1 2) = legD 49 := by kernel_rfl
theorem digz49 : ((⟨#[48, 49, 50, 51, 52, 53, 54, 55]⟩ : ByteArray).extract 1 2).size = 1 := by kernel_rfl
theorem dig50 : ((⟨#[95, 108, 101, 103]⟩ : ByteArray) ++ (⟨#[48, 49, 50, 51, 52, 53, 54, 55]⟩ : ByteArray).extract 2 3) = legD 50 := by kernel_rfl
theorem digz50 : ((⟨#[48, 49, 50, 51, 52, 53, 54, 55]⟩ : ByteArray).extract 2 3).size = 1 := by kernel_rfl
theorem dig51 : ((⟨#[95, 108, 101, 103]⟩ : ByteArray) ++ (⟨#[48, 49, 50, 51, 52, 53, 54, 55]⟩ : ByteArray).extract 3 4) = legD 51 := by kernel_rfl
theorem digz51 : ((⟨#[48, 49, 50, 51, 52, 53, 54, 55]⟩ : ByteArray).extract 3 4).size = 1 := by kernel_rfl
theorem dig52 : ((⟨#[95, 108, 101, 103]⟩ : ByteArray) ++ (⟨#[48, 49, 50, 51, 52, 53, 54, 55]⟩ : ByteArray).extract 4 5) = legD 52 := by kernel_rfl
theorem digz52 : ((⟨#[48, 49, 50, 51, 52, 53, 54, 55]⟩ : ByteArray).extract 4 5).size = 1 := by kernel_rfl
theorem dig53 : ((⟨#[95, 108, 101, 103]⟩ : ByteArray) ++ (⟨#[48, 49, 50, 51, 52, 53, 54, 55]⟩ : ByteArray).extract 5 6) = legD 53 := by kernel_rfl
theorem digz53 : ((⟨#[48, 49, 50, 51, 52, 53, 54, 55]⟩ : ByteArray).extract 5 6).size = 1 := by kernel_rfl
theorem dig54 : ((⟨#[95, 108, 101, 103]⟩ : ByteArray) ++ (⟨#[48, 49, 50, 51, 52, 53, 54, 55]⟩ : ByteArray).extract 6 7) = legD 54 := by kernel_rfl
theorem digz54 : ((⟨#[48, 49, 50, 51, 52, 53, 54, 55]⟩ : ByteArray).extract 6 7).size = 1 := by kernel_rfl
theorem dig55 : ((⟨#[95, 108, 101, 103]⟩ : ByteArray) ++ (⟨#[48, 49, 50, 51, 52, 53, 54, 55]⟩ : ByteArray).extract 7 8) = legD 55 := by kernel_rfl
theorem digz55 : ((⟨#[48, 49, 50, 51, 52, 53, 54, 55]⟩ : ByteArray).extract 7 8).size = 1 := by kernel_rfl

set_option maxRecDepth 100000 in
set_option maxHeartbeats 4000000 in
theorem leg_any (s : ByteArray) (k : Int) (w : World) (hs : s.size ≤ 1000000) (hS : Suf w) :
    Calls Tryd.prog 10 #[.string s, .int .i64 k] w (Ret (V2 (legR s k)) w) := by
  have H := Lib.hid (fun (suf : ByteArray) (h : suf.size ≤ 100) => with_any s suf w hs h hS)
  clear hS
  by_cases hk : 0 ≤ k ∧ k ≤ 7
  · have HR := Lib.hid (show legR s k = addR s (legSuf k.toNat) true by unfold legR; rw [if_pos hk])
    rcases (show k = 0 ∨ k = 1 ∨ k = 2 ∨ k = 3 ∨ k = 4 ∨ k = 5 ∨ k = 6 ∨ k = 7 by omega) with rfl | rfl | rfl | rfl | rfl | rfl | rfl | rfl
    · have HC := Lib.hid (H.out (legD 48) (by decide))
      clear hk
      have hz := encz48
      go_enter Tryd.func10, Tryd.ntmps10
      go_wp2_with fail
      rw [enc48]
      refine HC.out.mono ?_
      rintro e w1 ⟨rfl, hb⟩
      rw [show addR s (legD 48) (decide ((legD 48).size ≠ 0)) = legR s 0 from HR.out.symm]
      obtain ⟨a, b, hr⟩ : ∃ a b, legR s 0 = (a, b) := ⟨_, _, rfl⟩
      rw [hr]
      have HRR := Lib.hid hr
      have HB := Lib.hid (hb)
      clear hr hb HC H
      unfold V2
      go_wp2_with fail
      go_ret2
      exact ⟨by rw [HRR.out]; rfl, HB.out⟩
    · have HC := Lib.hid (H.out (legD 49) (by decide))
      clear hk
      have hz := encz49
      go_enter Tryd.func10, Tryd.ntmps10
      go_wp2_with fail
      rw [enc49]
      refine HC.out.mono ?_
      rintro e w1 ⟨rfl, hb⟩
      rw [show addR s (legD 49) (decide ((legD 49).size ≠ 0)) = legR s 1 from HR.out.symm]
      obtain ⟨a, b, hr⟩ : ∃ a b, legR s 1 = (a, b) := ⟨_, _, rfl⟩
      rw [hr]
      have HRR := Lib.hid hr
      have HB := Lib.hid (hb)
      clear hr hb HC H
      unfold V2
      go_wp2_with fail
      go_ret2
      exact ⟨by rw [HRR.out]; rfl, HB.out⟩
    · have HC := Lib.hid (H.out (legD 50) (by decide))
      clear hk
      have hz := encz50
      go_enter Tryd.func10, Tryd.ntmps10
      go_wp2_with fail
      rw [enc50]
      refine HC.out.mono ?_
      rintro e w1 ⟨rfl, hb⟩
      rw [show addR s (legD 50) (decide ((legD 50).size ≠ 0)) = legR s 2 from HR.out.symm]
      obtain ⟨a, b, hr⟩ : ∃ a b, legR s 2 = (a, b) := ⟨_, _, rfl⟩
      rw [hr]
      have HRR := Lib.hid hr
      have HB := Lib.hid (hb)
      clear hr hb HC H
      unfold V2
      go_wp2_with fail
      go_ret2
      exact ⟨by rw [HRR.out]; rfl, HB.out⟩
    · have HC := Lib.hid (H.out (legD 51) (by decide))
      clear hk
      have hz := encz51
      go_enter Tryd.func10, Tryd.ntmps10
      go_wp2_with fail
      rw [enc51]
      refine HC.out.mono ?_
      rintro e w1 ⟨rfl, hb⟩
      rw [show addR s (legD 51) (decide ((legD 51).size ≠ 0)) = legR s 3 from HR.out.symm]
      obtain ⟨a, b, hr⟩ : ∃ a b, legR s 3 = (a, b) := ⟨_, _, rfl⟩
      rw [hr]
      have HRR := Lib.hid hr
      have HB := Lib.hid (hb)
      clear hr hb HC H
      unfold V2
      go_wp2_with fail
      go_ret2
      exact ⟨by rw [HRR.out]; rfl, HB.out⟩
    · have HC := Lib.hid (H.out (legD 52) (by decide))
      clear hk
      have hz := encz52
      go_enter Tryd.func10, Tryd.ntmps10
      go_wp2_with fail
      rw [enc52]
      refine HC.out.mono ?_
      rintro e w1 ⟨rfl, hb⟩
      rw [show addR s (legD 52) (decide ((legD 52).size ≠ 0)) = legR s 4 from HR.out.symm]
      obtain ⟨a, b, hr⟩ : ∃ a b, legR s 4 = (a, b) := ⟨_, _, rfl⟩
      rw [hr]
      have HRR := Lib.hid hr
      have HB := Lib.hid (hb)
      clear hr hb HC H
      unfold V2
      go_wp2_with fail
      go_ret2
      exact ⟨by rw [HRR.out]; rfl, HB.out⟩
    · have HC := Lib.hid (H.out (legD 53) (by decide))
      clear hk
      have hz := encz53
      go_enter Tryd.func10, Tryd.ntmps10
      go_wp2_with fail
      rw [enc53]
      refine HC.out.mono ?_
      rintro e w1 ⟨rfl, hb⟩
      rw [show addR s (legD 53) (decide ((legD 53).size ≠ 0)) = legR s 5 from HR.out.symm]
      obtain ⟨a, b, hr⟩ : ∃ a b, legR s 5 = (a, b) := ⟨_, _, rfl⟩
      rw [hr]
      have HRR := Lib.hid hr
      have HB := Lib.hid (hb)
      clear hr hb HC H
      unfold V2
      go_wp2_with fail
      go_ret2
      exact ⟨by rw [HRR.out]; rfl, HB.out⟩
    · have HC := Lib.hid (H.out (legD 54) (by decide))
      clear hk
      have hz := encz54
      go_enter Tryd.func10, Tryd.ntmps10
      go_wp2_with fail
      rw [enc54]
      refine HC.out.mono ?_
      rintro e w1 ⟨rfl, hb⟩
      rw [show addR s (legD 54) (decide ((legD 54).size ≠ 0)) = legR s 6 from HR.out.symm]
      obtain ⟨a, b, hr⟩ : ∃ a b, legR s 6 = (a, b) := ⟨_, _, rfl⟩
      rw [hr]
      have HRR := Lib.hid hr
      have HB := Lib.hid (hb)
      clear hr hb HC H
      unfold V2
      go_wp2_with fail
      go_ret2
      exact ⟨by rw [HRR.out]; rfl, HB.out⟩
    · have HC := Lib.hid (H.out (legD 55) (by decide))
      clear hk
      have hz := encz55
      go_enter Tryd.func10, Tryd.ntmps10
      go_wp2_with fail
      rw [enc55]
      refine HC.out.mono ?_
      rintro e w1 ⟨rfl, hb⟩
      rw [show addR s (legD 55) (decide ((legD 55).size ≠ 0)) = legR s 7 from HR.out.symm]
      obtain ⟨a, b, hr⟩ : ∃ a b, legR s 7 = (a, b) := ⟨_, _, rfl⟩
      rw [hr]
      have HRR := Lib.hid hr
      have HB := Lib.hid (hb)
      clear hr hb HC H
      unfold V2
      go_wp2_with fail
      go_ret2
      exact ⟨by rw [HRR.out]; rfl, HB.out⟩
  · have HR := Lib.hid (show legR s k = addR s noS false by unfold legR; rw [if_neg hk])
    have HC := Lib.hid (H.out noS (by decide))
    by_cases h0 : 0 ≤ k
    · have h1 : ¬ k ≤ 7 := by omega
      clear hk
      go_enter Tryd.func10, Tryd.ntmps10
      go_wp2_with fail
      refine HC.out.mono ?_
      rintro e w1 ⟨rfl, hb⟩
      rw [show addR s noS (decide (noS.size ≠ 0)) = legR s k from HR.out.symm]
      obtain ⟨a, b, hr⟩ : ∃ a b, legR s k = (a, b) := ⟨_, _, rfl⟩
      rw [hr]
      have HRR := Lib.hid hr
      have HB := Lib.hid (hb)
      clear hr hb HC H
      unfold V2
      go_wp2_with fail
      go_ret2
      exact ⟨by rw [HRR.out]; rfl, HB.out⟩
    · clear hk
      go_enter Tryd.func10, Tryd.ntmps10
      go_wp2_with fail
      refine HC.out.mono ?_
      rintro e w1 ⟨rfl, hb⟩
      rw [show addR s noS (decide (noS.size ≠ 0)) = legR s k from HR.out.symm]
      obtain ⟨a, b, hr⟩ : ∃ a b, legR s k = (a, b) := ⟨_, _, rfl⟩
      rw [hr]
      have HRR := Lib.hid hr
      have HB := Lib.hid (hb)
      clear hr hb HC H
      unfold V2
      go_wp2_with fail
      go_ret2
      exact ⟨by rw [HRR.out]; rfl, HB.out⟩

set_option maxRecDepth 100000 in
set_option maxHeartbeats 4000000 in
theorem part_any (s : ByteArray) (k : Int) (w : World) (hs : s.size ≤ 1000000) (hS : Suf w) :
    Calls Tryd.prog 11 #[.string s, .int .i64 k] w (Ret (V2 (partR s k)) w) := by
  have H := Lib.hid (fun (suf : ByteArray) (h : suf.size ≤ 100) => with_any s suf w hs h hS)
  have c1 := hS.c1
  have c2 := hS.c2
  have c3 := hS.c3
  have c4 := hS.c4
  clear hS
  by_cases hk : 1 ≤ k ∧ k ≤ 4
  · have HR := Lib.hid (show partR s k = addR s (partSuf k.toNat) true by unfold partR; rw [if_pos hk])
    rcases (show k = 1 ∨ k = 2 ∨ k = 3 ∨ k = 4 by omega) with rfl | rfl | rfl | rfl
    · have HC := Lib.hid (H.out sLog (by decide))
      clear hk
      go_enter Tryd.func11, Tryd.ntmps11
      go_wp2_with fail
      refine HC.out.mono ?_
      rintro e w1 ⟨rfl, hb⟩
      rw [show addR s sLog (decide (sLog.size ≠ 0)) = partR s 1 from HR.out.symm]
      obtain ⟨a, b, hr⟩ : ∃ a b, partR s 1 = (a, b) := ⟨_, _, rfl⟩
      rw [hr]
      have HRR := Lib.hid hr
      have HB := Lib.hid (hb)
      clear hr hb HC H
      unfold V2
      go_wp2_with fail
      go_ret2
      exact ⟨by rw [HRR.out]; rfl, HB.out⟩
    · have HC := Lib.hid (H.out sData (by decide))
      clear hk
      go_enter Tryd.func11, Tryd.ntmps11
      go_wp2_with fail
      refine HC.out.mono ?_
      rintro e w1 ⟨rfl, hb⟩
      rw [show addR s sData (decide (sData.size ≠ 0)) = partR s 2 from HR.out.symm]
      obtain ⟨a, b, hr⟩ : ∃ a b, partR s 2 = (a, b) := ⟨_, _, rfl⟩
      rw [hr]
      have HRR := Lib.hid hr
      have HB := Lib.hid (hb)
      clear hr hb HC H
      unfold V2
      go_wp2_with fail
      go_ret2
      exact ⟨by rw [HRR.out]; rfl, HB.out⟩
    · have HC := Lib.hid (H.out sMeta (by decide))
      clear hk
      go_enter Tryd.func11, Tryd.ntmps11
      go_wp2_with fail
      refine HC.out.mono ?_
      rintro e w1 ⟨rfl, hb⟩
      rw [show addR s sMeta (decide (sMeta.size ≠ 0)) = partR s 3 from HR.out.symm]
      obtain ⟨a, b, hr⟩ : ∃ a b, partR s 3 = (a, b) := ⟨_, _, rfl⟩
      rw [hr]
      have HRR := Lib.hid hr
      have HB := Lib.hid (hb)
      clear hr hb HC H
      unfold V2
      go_wp2_with fail
      go_ret2
      exact ⟨by rw [HRR.out]; rfl, HB.out⟩
    · have HC := Lib.hid (H.out sSpare (by decide))
      clear hk
      go_enter Tryd.func11, Tryd.ntmps11
      go_wp2_with fail
      refine HC.out.mono ?_
      rintro e w1 ⟨rfl, hb⟩
      rw [show addR s sSpare (decide (sSpare.size ≠ 0)) = partR s 4 from HR.out.symm]
      obtain ⟨a, b, hr⟩ : ∃ a b, partR s 4 = (a, b) := ⟨_, _, rfl⟩
      rw [hr]
      have HRR := Lib.hid hr
      have HB := Lib.hid (hb)
      clear hr hb HC H
      unfold V2
      go_wp2_with fail
      go_ret2
      exact ⟨by rw [HRR.out]; rfl, HB.out⟩
  · have HR := Lib.hid (show partR s k = addR s noS false by unfold partR; rw [if_neg hk])
    have HC := Lib.hid (H.out noS (by decide))
    by_cases h0 : 1 ≤ k
    · have h1 : ¬ k ≤ 4 := by omega
      clear hk
      go_enter Tryd.func11, Tryd.ntmps11
      go_wp2_with fail
      refine HC.out.mono ?_
      rintro e w1 ⟨rfl, hb⟩
      rw [show addR s noS (decide (noS.size ≠ 0)) = partR s k from HR.out.symm]
      obtain ⟨a, b, hr⟩ : ∃ a b, partR s k = (a, b) := ⟨_, _, rfl⟩
      rw [hr]
      have HRR := Lib.hid hr
      have HB := Lib.hid (hb)
      clear hr hb HC H
      unfold V2
      go_wp2_with fail
      go_ret2
      exact ⟨by rw [HRR.out]; rfl, HB.out⟩
    · clear hk
      go_enter Tryd.func11, Tryd.ntmps11
      go_wp2_with fail
      refine HC.out.mono ?_
      rintro e w1 ⟨rfl, hb⟩
      rw [show addR s noS (decide (noS.size ≠ 0)) = partR s k from HR.out.symm]
      obtain ⟨a, b, hr⟩ : ∃ a b, partR s k = (a, b) := ⟨_, _, rfl⟩
      rw [hr]
      have HRR := Lib.hid hr
      have HB := Lib.hid (hb)
      clear hr hb HC H
      unfold V2
      go_wp2_with fail
      go_ret2
      exact ⟨by rw [HRR.out]; rfl, HB.out⟩

set_option maxRecDepth 100000 in
set_option maxHeartbeats 4000000 in
theorem rleg_any (s : ByteArray) (k : Int) (w : World) (hs : s.size ≤ 1000000) :
    Calls Tryd.prog 33 #[.string s, .int .i64 k] w (Ret (V2 (legR s k)) w) := by
  have H := Lib.hid (fun (suf : ByteArray) (ok : Bool) (wx : World) (h : suf.size ≤ 100) => add_any s suf ok wx hs h)
  by_cases hk : 0 ≤ k ∧ k ≤ 7
  · have HR := Lib.hid (show legR s k = addR s (legSuf k.toNat) true by unfold legR; rw [if_pos hk])
    rcases (show k = 0 ∨ k = 1 ∨ k = 2 ∨ k = 3 ∨ k = 4 ∨ k = 5 ∨ k = 6 ∨ k = 7 by omega) with rfl | rfl | rfl | rfl | rfl | rfl | rfl | rfl
    · clear hk
      have hz := digz48
      go_enter Tryd.func33, Tryd.ntmps33
      go_wp2_with fail
      rw [dig48]
      refine (H.out (legD 48) true _ (by decide)).mono ?_
      rintro e w1 ⟨rfl, hb⟩
      rw [show addR s (legD 48) true = legR s 0 from HR.out.symm]
      obtain ⟨a, b, hr⟩ : ∃ a b, legR s 0 = (a, b) := ⟨_, _, rfl⟩
      rw [hr]
      have HRR := Lib.hid hr
      have HB := Lib.hid (hb)
      clear hr hb H
      unfold V2
      go_wp2_with fail
      go_ret2
      exact ⟨by rw [HRR.out]; rfl, HB.out⟩
    · clear hk
      have hz := digz49
      go_enter Tryd.func33, Tryd.ntmps33
      go_wp2_with fail
      rw [dig49]
      refine (H.out (legD 49) true _ (by decide)).mono ?_
      rintro e w1 ⟨rfl, hb⟩
      rw [show addR s (legD 49) true = legR s 1 from HR.out.symm]
      obtain ⟨a, b, hr⟩ : ∃ a b, legR s 1 = (a, b) := ⟨_, _, rfl⟩
      rw [hr]
      have HRR := Lib.hid hr
      have HB := Lib.hid (hb)
      clear hr hb H
      unfold V2
      go_wp2_with fail
      go_ret2
      exact ⟨by rw [HRR.out]; rfl, HB.out⟩
    · clear hk
      have hz := digz50
      go_enter Tryd.func33, Tryd.ntmps33
      go_wp2_with fail
      rw [dig50]
      refine (H.out (legD 50) true _ (by decide)).mono ?_
      rintro e w1 ⟨rfl, hb⟩
      rw [show addR s (legD 50) true = legR s 2 from HR.out.symm]
      obtain ⟨a, b, hr⟩ : ∃ a b, legR s 2 = (a, b) := ⟨_, _, rfl⟩
      rw [hr]
      have HRR := Lib.hid hr
      have HB := Lib.hid (hb)
      clear hr hb H
      unfold V2
      go_wp2_with fail
      go_ret2
      exact ⟨by rw [HRR.out]; rfl, HB.out⟩
    · clear hk
      have hz := digz51
      go_enter Tryd.func33, Tryd.ntmps33
      go_wp2_with fail
      rw [dig51]
      refine (H.out (legD 51) true _ (by decide)).mono ?_
      rintro e w1 ⟨rfl, hb⟩
      rw [show addR s (legD 51) true = legR s 3 from HR.out.symm]
      obtain ⟨a, b, hr⟩ : ∃ a b, legR s 3 = (a, b) := ⟨_, _, rfl⟩
      rw [hr]
      have HRR := Lib.hid hr
      have HB := Lib.hid (hb)
      clear hr hb H
      unfold V2
      go_wp2_with fail
      go_ret2
      exact ⟨by rw [HRR.out]; rfl, HB.out⟩
    · clear hk
      have hz := digz52
      go_enter Tryd.func33, Tryd.ntmps33
      go_wp2_with fail
      rw [dig52]
      refine (H.out (legD 52) true _ (by decide)).mono ?_
      rintro e w1 ⟨rfl, hb⟩
      rw [show addR s (legD 52) true = legR s 4 from HR.out.symm]
      obtain ⟨a, b, hr⟩ : ∃ a b, legR s 4 = (a, b) := ⟨_, _, rfl⟩
      rw [hr]
      have HRR := Lib.hid hr
      have HB := Lib.hid (hb)
      clear hr hb H
      unfold V2
      go_wp2_with fail
      go_ret2
      exact ⟨by rw [HRR.out]; rfl, HB.out⟩
    · clear hk
      have hz := digz53
      go_enter Tryd.func33, Tryd.ntmps33
      go_wp2_with fail
      rw [dig53]
      refine (H.out (legD 53) true _ (by decide)).mono ?_
      rintro e w1 ⟨rfl, hb⟩
      rw [show addR s (legD 53) true = legR s 5 from HR.out.symm]
      obtain ⟨a, b, hr⟩ : ∃ a b, legR s 5 = (a, b) := ⟨_, _, rfl⟩
      rw [hr]
      have HRR := Lib.hid hr
      have HB := Lib.hid (hb)
      clear hr hb H
      unfold V2
      go_wp2_with fail
      go_ret2
      exact ⟨by rw [HRR.out]; rfl, HB.out⟩
    · clear hk
      have hz := digz54
      go_enter Tryd.func33, Tryd.ntmps33
      go_wp2_with fail
      rw [dig54]
      refine (H.out (legD 54) true _ (by decide)).mono ?_
      rintro e w1 ⟨rfl, hb⟩
      rw [show addR s (legD 54) true = legR s 6 from HR.out.symm]
      obtain ⟨a, b, hr⟩ : ∃ a b, legR s 6 = (a, b) := ⟨_, _, rfl⟩
      rw [hr]
      have HRR := Lib.hid hr
      have HB := Lib.hid (hb)
      clear hr hb H
      unfold V2
      go_wp2_with fail
      go_ret2
      exact ⟨by rw [HRR.out]; rfl, HB.out⟩
    · clear hk
      have hz := digz55
      go_enter Tryd.func33, Tryd.ntmps33
      go_wp2_with fail
      rw [dig55]
      refine (H.out (legD 55) true _ (by decide)).mono ?_
      rintro e w1 ⟨rfl, hb⟩
      rw [show addR s (legD 55) true = legR s 7 from HR.out.symm]
      obtain ⟨a, b, hr⟩ : ∃ a b, legR s 7 = (a, b) := ⟨_, _, rfl⟩
      rw [hr]
      have HRR := Lib.hid hr
      have HB := Lib.hid (hb)
      clear hr hb H
      unfold V2
      go_wp2_with fail
      go_ret2
      exact ⟨by rw [HRR.out]; rfl, HB.out⟩
  · have HR := Lib.hid (show legR s k = addR s noS false by unfold legR; rw [if_neg hk])
    by_cases h0 : 0 ≤ k
    · have h1 : ¬ k ≤ 7 := by omega
      clear hk
      go_enter Tryd.func33, Tryd.ntmps33
      go_wp2_with fail
      refine (H.out (legD 48) false _ (by decide)).mono ?_
      rintro e w1 ⟨rfl, hb⟩
      rw [show addR s (legD 48) false = legR s k from HR.out.symm]
      obtain ⟨a, b, hr⟩ : ∃ a b, legR s k = (a, b) := ⟨_, _, rfl⟩
      rw [hr]
      have HRR := Lib.hid hr
      have HB := Lib.hid (hb)
      clear hr hb H
      unfold V2
      go_wp2_with fail
      go_ret2
      exact ⟨by rw [HRR.out]; rfl, HB.out⟩
    · clear hk
      go_enter Tryd.func33, Tryd.ntmps33
      go_wp2_with fail
      refine (H.out (legD 48) false _ (by decide)).mono ?_
      rintro e w1 ⟨rfl, hb⟩
      rw [show addR s (legD 48) false = legR s k from HR.out.symm]
      obtain ⟨a, b, hr⟩ : ∃ a b, legR s k = (a, b) := ⟨_, _, rfl⟩
      rw [hr]
      have HRR := Lib.hid hr
      have HB := Lib.hid (hb)
      clear hr hb H
      unfold V2
      go_wp2_with fail
      go_ret2
      exact ⟨by rw [HRR.out]; rfl, HB.out⟩

set_option maxRecDepth 100000 in
set_option maxHeartbeats 4000000 in
theorem rpart_any (s : ByteArray) (k : Int) (w : World) (hs : s.size ≤ 1000000) :
    Calls Tryd.prog 34 #[.string s, .int .i64 k] w (Ret (V2 (partR s k)) w) := by
  have H := Lib.hid (fun (suf : ByteArray) (ok : Bool) (wx : World) (h : suf.size ≤ 100) => add_any s suf ok wx hs h)
  by_cases hk : 1 ≤ k ∧ k ≤ 4
  · have HR := Lib.hid (show partR s k = addR s (partSuf k.toNat) true by unfold partR; rw [if_pos hk])
    rcases (show k = 1 ∨ k = 2 ∨ k = 3 ∨ k = 4 by omega) with rfl | rfl | rfl | rfl
    · clear hk
      go_enter Tryd.func34, Tryd.ntmps34
      go_wp2_with fail
      refine (H.out sLog true _ (by decide)).mono ?_
      rintro e w1 ⟨rfl, hb⟩
      rw [show addR s sLog true = partR s 1 from HR.out.symm]
      obtain ⟨a, b, hr⟩ : ∃ a b, partR s 1 = (a, b) := ⟨_, _, rfl⟩
      rw [hr]
      have HRR := Lib.hid hr
      have HB := Lib.hid (((Below.refl _ _).al _).next hb)
      clear hr hb H
      unfold V2
      go_wp2_with fail
      go_ret2
      exact ⟨by rw [HRR.out]; rfl, HB.out⟩
    · clear hk
      go_enter Tryd.func34, Tryd.ntmps34
      go_wp2_with fail
      refine (H.out sData true _ (by decide)).mono ?_
      rintro e w1 ⟨rfl, hb⟩
      rw [show addR s sData true = partR s 2 from HR.out.symm]
      obtain ⟨a, b, hr⟩ : ∃ a b, partR s 2 = (a, b) := ⟨_, _, rfl⟩
      rw [hr]
      have HRR := Lib.hid hr
      have HB := Lib.hid (((Below.refl _ _).al _).next hb)
      clear hr hb H
      unfold V2
      go_wp2_with fail
      go_ret2
      exact ⟨by rw [HRR.out]; rfl, HB.out⟩
    · clear hk
      go_enter Tryd.func34, Tryd.ntmps34
      go_wp2_with fail
      refine (H.out sMeta true _ (by decide)).mono ?_
      rintro e w1 ⟨rfl, hb⟩
      rw [show addR s sMeta true = partR s 3 from HR.out.symm]
      obtain ⟨a, b, hr⟩ : ∃ a b, partR s 3 = (a, b) := ⟨_, _, rfl⟩
      rw [hr]
      have HRR := Lib.hid hr
      have HB := Lib.hid (((Below.refl _ _).al _).next hb)
      clear hr hb H
      unfold V2
      go_wp2_with fail
      go_ret2
      exact ⟨by rw [HRR.out]; rfl, HB.out⟩
    · clear hk
      go_enter Tryd.func34, Tryd.ntmps34
      go_wp2_with fail
      refine (H.out sSpare true _ (by decide)).mono ?_
      rintro e w1 ⟨rfl, hb⟩
      rw [show addR s sSpare true = partR s 4 from HR.out.symm]
      obtain ⟨a, b, hr⟩ : ∃ a b, partR s 4 = (a, b) := ⟨_, _, rfl⟩
      rw [hr]
      have HRR := Lib.hid hr
      have HB := Lib.hid (((Below.refl _ _).al _).next hb)
      clear hr hb H
      unfold V2
      go_wp2_with fail
      go_ret2
      exact ⟨by rw [HRR.out]; rfl, HB.out⟩
  · have HR := Lib.hid (show partR s k = addR s noS false by unfold partR; rw [if_neg hk])
    by_cases h0 : 1 ≤ k
    · have h1 : ¬ k ≤ 4 := by omega
      clear hk
      go_enter Tryd.func34, Tryd.ntmps34
      go_wp2_with fail
      refine (H.out sLog false _ (by decide)).mono ?_
      rintro e w1 ⟨rfl, hb⟩
      rw [show addR s sLog false = partR s k from HR.out.symm]
      obtain ⟨a, b, hr⟩ : ∃ a b, partR s k = (a, b) := ⟨_, _, rfl⟩
      rw [hr]
      have HRR := Lib.hid hr
      have HB := Lib.hid (hb)
      clear hr hb H
      unfold V2
      go_wp2_with fail
      go_ret2
      exact ⟨by rw [HRR.out]; rfl, HB.out⟩
    · clear hk
      go_enter Tryd.func34, Tryd.ntmps34
      go_wp2_with fail
      refine (H.out sLog false _ (by decide)).mono ?_
      rintro e w1 ⟨rfl, hb⟩
      rw [show addR s sLog false = partR s k from HR.out.symm]
      obtain ⟨a, b, hr⟩ : ∃ a b, partR s k = (a, b) := ⟨_, _, rfl⟩
      rw [hr]
      have HRR := Lib.hid hr
      have HB := Lib.hid (hb)
      clear hr hb H
      unfold V2
      go_wp2_with fail
      go_ret2
      exact ⟨by rw [HRR.out]; rfl, HB.out⟩
end Go.Proofs.YtnodlkjajgeepaaDoor
