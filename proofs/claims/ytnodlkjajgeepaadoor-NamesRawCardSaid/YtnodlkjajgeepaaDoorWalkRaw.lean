/- The walks of NamesRaw and NamesBuilt. -/
import Derived.Test.YtnodlkjajgeepaaDoorAgrees
namespace Go.Proofs.YtnodlkjajgeepaaDoor
open Go.RowKit

set_option maxRecDepth 100000 in
set_option maxHeartbeats 8000000 in
theorem raw_walk (s : ByteArray) (k : Int) (W : World) (hS : Suf W) :
    Calls Tryd.prog 5 #[.string s, .int .i64 k] W (Ret (.bool true) W) := by
  have HS := Lib.hid hS
  clear hS
  by_cases h80 : 80 < s.size
  · have i0 : 80 < (s.size : Int) := by omega
    go_enter Tryd.func5, Tryd.ntmps5
    go_wp2_with fail
    refine (awake_any W HS.out).mono ?_
    rintro e w1 ⟨rfl, hb1⟩
    have HB := Lib.hid hb1
    clear hb1
    go_wp2_with fail
    go_ret
    exact ⟨rfl, HB.out⟩
  · have i0 : ¬ 80 < (s.size : Int) := by omega
    have i1 : ¬ 9223372036854775807 < 1 + s.size := by omega
    have i2 : ¬ 9223372036854775807 < s.size + 4 := by omega
    have HC := Lib.hid (agrees_any s k W (by omega) HS.out)
    have HZ := Lib.hid h80
    clear h80
    go_enter Tryd.func5, Tryd.ntmps5
    go_wp2_with fail
    refine HC.out.mono ?_
    rintro e w1 ⟨rfl, hb1⟩
    have HB1 := Lib.hid hb1
    have HS1 := Lib.hid (HS.out.below hb1 HS.out.pos)
    clear hb1 HC HS
    go_wp2_with fail
    refine (agrees_any _ _ w1 (by have := HZ.out; rw [ByteArray.size_append]; show 1 + s.size ≤ 1000000; omega) HS1.out).mono ?_
    rintro e w2 ⟨rfl, hb2⟩
    have HB2 := Lib.hid (HB1.out.next hb2)
    have HS2 := Lib.hid (HS1.out.below hb2 HS1.out.pos)
    clear hb2 HB1 HS1
    go_wp2_with fail
    refine (agrees_any _ _ w2 (by have := HZ.out; rw [ByteArray.size_append]; show s.size + 4 ≤ 1000000; omega) HS2.out).mono ?_
    rintro e w3 ⟨rfl, hb3⟩
    have HB3 := Lib.hid (HB2.out.next hb3)
    have HS3 := Lib.hid (HS2.out.below hb3 HS2.out.pos)
    clear hb3 HB2 HS2
    go_wp2_with fail
    refine (awake_any w3 HS3.out).mono ?_
    rintro e w4 ⟨rfl, hb4⟩
    have HB4 := Lib.hid (HB3.out.next hb4)
    clear hb4 HB3 HS3
    go_wp2_with fail
    go_ret
    exact ⟨rfl, HB4.out⟩

set_option maxRecDepth 100000 in
set_option maxHeartbeats 8000000 in
theorem builtLaw_walk (A : Option Addr) (m c : Nat) (l : List Int) (W : World) (hmc : m ≤ c) (hcm : c ≤ maxLen) (hr : Reads W W.heap.size 1 A m (I l)) (hS : Suf W) :
    Calls Tryd.prog 6 #[.slice A m c] W (Ret (.bool true) W) := by
  have HN := Lib.hid (srcNew_any A m c l W hmc hcm hr)
  have HS := Lib.hid hS
  have hw0 := hS.pos
  clear hr hmc hcm hS
  go_enter Tryd.func6, Tryd.ntmps6
  go_wp2_with fail
  refine HN.out.mono ?_
  rintro e w1 ⟨rfl, hs1, hb1⟩
  have HK1 := Lib.hid hs1
  have HB1 := Lib.hid hb1
  have HS1 := Lib.hid (HS.out.below hb1 hw0)
  clear hs1 hb1 HN HS
  go_wp2_with fail
  refine (built_any W.heap.size W.heap.size w1 HK1.out).mono ?_
  rintro e w2 ⟨x, hxs, rfl, hs2, ho2⟩
  have HK2 := Lib.hid hs2
  have HB2 := Lib.hid (HB1.out.trans (ho2.below HK1.out.lt.2.2 (fun k e => by rw [e]; exact Nat.le_refl _)))
  have HS2 := Lib.hid (HS1.out.only ho2 (by omega))
  clear hs2 ho2 HK1 HB1 HS1
  go_wp2_with fail
  refine (srcRange_any W.heap.size W.heap.size (-1) 9 w2 HK2.out (by omega) (by omega) (by omega)).mono ?_
  rintro e w3 ⟨k, _, rfl, hs3, ho3⟩
  have HK3 := Lib.hid hs3
  have HB3 := Lib.hid (HB2.out.trans (ho3.below HK2.out.lt.2.2 (fun k e => by rw [e]; exact Nat.le_refl _)))
  have HS3 := Lib.hid (HS2.out.only ho3 (by omega))
  clear hs3 ho3 HK2 HB2 HS2
  go_wp2_with fail
  refine (agrees_any x k w3 (by omega) HS3.out).mono ?_
  rintro e w4 ⟨rfl, hb4⟩
  have HK4 := Lib.hid (HK3.out.below hb4)
  have HB4 := Lib.hid (HB3.out.trans (hb4.mono HB3.out.size))
  have HS4 := Lib.hid (HS3.out.below hb4 HS3.out.pos)
  clear hb4 HK3 HB3 HS3
  go_wp2_with fail
  refine (built_any W.heap.size W.heap.size w4 HK4.out).mono ?_
  rintro e w5 ⟨y, hys, rfl, hs5, ho5⟩
  have HK5 := Lib.hid hs5
  have HB5 := Lib.hid (HB4.out.trans (ho5.below HK4.out.lt.2.2 (fun k e => by rw [e]; exact Nat.le_refl _)))
  have HS5 := Lib.hid (HS4.out.only ho5 (by omega))
  clear hs5 ho5 HK4 HB4 HS4
  go_wp2_with fail
  refine (srcRange_any W.heap.size W.heap.size 0 5 w5 HK5.out (by omega) (by omega) (by omega)).mono ?_
  rintro e w6 ⟨j, _, rfl, hs6, ho6⟩
  have HB6 := Lib.hid (HB5.out.trans (ho6.below HK5.out.lt.2.2 (fun k e => by rw [e]; exact Nat.le_refl _)))
  have HS6 := Lib.hid (HS5.out.only ho6 (by omega))
  clear hs6 ho6 HK5 HB5 HS5
  go_wp2_with fail
  refine (agrees_any y j w6 (by omega) HS6.out).mono ?_
  rintro e w7 ⟨rfl, hb7⟩
  have HB7 := Lib.hid (HB6.out.trans (hb7.mono HB6.out.size))
  have HS7 := Lib.hid (HS6.out.below hb7 HS6.out.pos)
  clear hb7 HB6 HS6
  go_wp2_with fail
  refine (awake_any w7 HS7.out).mono ?_
  rintro e w8 ⟨rfl, hb8⟩
  have HB8 := Lib.hid (HB7.out.trans (hb8.mono HB7.out.size))
  clear hb8
  go_wp2_with fail
  go_ret
  exact ⟨rfl, HB8.out⟩
end Go.Proofs.YtnodlkjajgeepaaDoor
