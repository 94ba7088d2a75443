/- awake answers true (printed by genAwake.py). -/
import Derived.Test.YtmmdckijokiomaaAwakeP
namespace Go.Proofs.Ytmmdckijokiomaa
open Go.RowKit
theorem put3_bel {w w2 : World} {g : Nat} {a c b : Value} (hb : Below w.heap.size w w2) (hg : w.heap.size ≤ g) : Below w.heap.size w (put3 w2 g a c b) := hb.trans ((put3_only w2 g a c b).below hb.size (fun k e => by subst e; exact hg))
theorem awc0 (w : World) : Calls Try.prog 8 #[.int .i64 1] w (StRet ((⟨[sz], 0, []⟩ : St), 0) w) := by
  have h0 := new_any 1 w
  rw [aw0] at h0
  exact h0
theorem awc1 {w : World} {g : Nat} {a b : Value} (h : At w g ⟨[sz], 0, []⟩ a b) : Calls Try.prog 26 #[.agg #[a, .int .i64 0, b], .int .i64 7] w (MissRet ((⟨[sz], 0, [7]⟩ : St), false, 0) w) := by
  have h0 := miss_any (b := 7) h.sv
  rw [aw1] at h0
  exact h0
theorem awc2 {w : World} {g : Nat} {a b : Value} (h : At w g ⟨[sz], 0, [7]⟩ a b) : Calls Try.prog 26 #[.agg #[a, .int .i64 0, b], .int .i64 7] w (MissRet ((⟨[sz], 0, []⟩ : St), true, 0) w) := by
  have h0 := miss_any (b := 7) h.sv
  rw [aw2] at h0
  exact h0
theorem awc3 {w : World} {g : Nat} {a b : Value} (h : At w g ⟨[sz], 0, []⟩ a b) : Calls Try.prog 22 #[.agg #[a, .int .i64 0, b]] w (Ret (.tuple #[.int .i64 0, .int .i64 0]) w) := by
  have h0 := victim_any h.sv
  rw [aw3] at h0
  exact h0
theorem awc4 {w : World} {g : Nat} {a b : Value} (h : At w g ⟨[sz], 0, []⟩ a b) : Calls Try.prog 28 #[.agg #[a, .int .i64 0, b], .int .i64 0, .int .i64 7] w (StRet ((⟨[⟨true, false, 7, 1⟩], 1, []⟩ : St), 0) w) := by
  have h0 := place_any (k := 0) (b := 7) h.sv
  rw [aw4] at h0
  exact h0
theorem awc5 {w : World} {g : Nat} {a b : Value} (h : At w g ⟨[⟨true, false, 7, 1⟩], 1, []⟩ a b) : Calls Try.prog 24 #[.agg #[a, .int .i64 1, b], .int .i64 0] w (StRet ((⟨[⟨true, false, 7, 2⟩], 2, []⟩ : St), 0) w) := by
  have h0 := touch_any (k := 0) h.sv
  rw [aw5] at h0
  exact h0
theorem awc6 {w : World} {g : Nat} {a b : Value} (h : At w g ⟨[⟨true, false, 7, 2⟩], 2, []⟩ a b) : Calls Try.prog 32 #[.agg #[a, .int .i64 2, b], .int .i64 0, .bool true] w (StRet ((⟨[⟨true, true, 7, 2⟩], 2, []⟩ : St), 0) w) := by
  have h0 := setdirty_any (k := 0) (d := true) h.sv
  rw [aw6] at h0
  exact h0
theorem awc7 {w : World} {g : Nat} {a b : Value} (h : At w g ⟨[⟨true, true, 7, 2⟩], 2, []⟩ a b) : Calls Try.prog 30 #[.agg #[a, .int .i64 2, b], .int .i64 0] w (StRet (St.none_, 27) w) := by
  have h0 := clear_any (k := 0) h.sv
  rw [aw7] at h0
  exact h0
theorem awc8 {w : World} {g : Nat} {a b : Value} (h : At w g ⟨[⟨true, false, 7, 1⟩], 1, []⟩ a b) : Calls Try.prog 18 #[.agg #[a, .int .i64 1, b], .int .i64 7] w (Ret (.int .i64 0) w) := by
  have h0 := find_any (b := 7) h.sv
  rw [aw8] at h0
  exact h0
theorem awc9 {w : World} {g : Nat} {a b : Value} (h : At w g ⟨[⟨true, true, 7, 2⟩], 2, []⟩ a b) : Calls Try.prog 20 #[.agg #[a, .int .i64 2, b]] w (Ret (.int .i64 0) w) := by
  have h0 := oldest_any h.sv
  rw [aw9] at h0
  exact h0
theorem awc10 {w : World} {g : Nat} {a b : Value} (h : At w g ⟨[⟨true, true, 7, 2⟩], 2, []⟩ a b) : Calls Try.prog 13 #[.agg #[a, .int .i64 2, b]] w (Ret (.int .i64 0) w) := by
  have h0 := valid_any h.sv
  rw [aw10] at h0
  exact h0

set_option maxRecDepth 100000 in
set_option maxHeartbeats 8000000 in
theorem awake_any (w : World) : Calls Try.prog 15 #[] w (Ret (.bool true) w) := by
  go_enter Try.func15, Try.ntmps15
  go_wp2_with fail
  refine (awc0 w).mono ?_
  rintro e w1 ⟨a1, b1, rfl, hs1, hb1, ht1⟩
  obtain ⟨A1, n1, c1, D1, m1, d1, rfl, rfl⟩ := hs1.form_
  have HA1 := Lib.hid (At.new_ hs1 ht1)
  have HB1 := Lib.hid (hb1.al (.cells #[.slice A1 n1 c1, .int .i64 0, .slice D1 m1 d1] 25))
  have hg1 := hb1.size
  clear hs1 hb1 ht1
  go_wp2_with fail
  refine (awc1 HA1.out).mono ?_
  rintro e w2 ⟨a2, b2, rfl, hs2, hb2, ht2⟩
  obtain ⟨A2, n2, c2, D2, m2, d2, rfl, rfl⟩ := hs2.form_
  have HO2 := Lib.hid (HA1.out.up hb2)
  have HA2 := Lib.hid (HO2.out.set hs2 ht2)
  have HB2 := Lib.hid (show Below w.heap.size w (put3 w2 w1.heap.size (.slice A2 n2 c2) (.int .i64 0) (.slice D2 m2 d2)) from put3_bel (HB1.out.next hb2) hg1)
  clear hs2 hb2 ht2
  obtain ⟨x0, x1, x2, x3, x4, x5⟩ := HO2.out.c
  simp only at x1
  go_wp2_with fail
  refine (awc2 HA2.out).mono ?_
  rintro e w3 ⟨a3, b3, rfl, hs3, hb3, ht3⟩
  obtain ⟨A3, n3, c3, D3, m3, d3, rfl, rfl⟩ := hs3.form_
  have HO3 := Lib.hid (HA2.out.up hb3)
  have HA3 := Lib.hid (HO3.out.set hs3 ht3)
  have HB3 := Lib.hid (show Below w.heap.size w (put3 w3 w1.heap.size (.slice A3 n3 c3) (.int .i64 0) (.slice D3 m3 d3)) from put3_bel (HB2.out.next hb3) hg1)
  clear hs3 hb3 ht3
  clear x0 x1 x2 x3 x4 x5
  obtain ⟨x0, x1, x2, x3, x4, x5⟩ := HO3.out.c
  simp only at x1
  go_wp2_with fail
  refine (awc3 HA3.out).mono ?_
  rintro e w4 ⟨rfl, hb4⟩
  have HO4 := Lib.hid (HA3.out.up hb4)
  have HB4 := Lib.hid (HB3.out.next hb4)
  clear hb4
  clear x0 x1 x2 x3 x4 x5
  obtain ⟨x0, x1, x2, x3, x4, x5⟩ := HO4.out.c
  simp only at x1
  go_wp2_with fail
  refine (awc4 HO4.out).mono ?_
  rintro e w5 ⟨a5, b5, rfl, hs5, hb5, ht5⟩
  obtain ⟨A5, n5, c5, D5, m5, d5, rfl, rfl⟩ := hs5.form_
  have HO5 := Lib.hid (HO4.out.up hb5)
  have HA5 := Lib.hid (HO5.out.set hs5 ht5)
  have HB5 := Lib.hid (show Below w.heap.size w (put3 w5 w1.heap.size (.slice A5 n5 c5) (.int .i64 1) (.slice D5 m5 d5)) from put3_bel (HB4.out.next hb5) hg1)
  clear hs5 hb5 ht5
  clear x0 x1 x2 x3 x4 x5
  obtain ⟨x0, x1, x2, x3, x4, x5⟩ := HO5.out.c
  simp only at x1
  go_wp2_with fail
  refine (awc5 HA5.out).mono ?_
  rintro e w6 ⟨a6, b6, rfl, hs6, hb6, ht6⟩
  obtain ⟨A6, n6, c6, D6, m6, d6, rfl, rfl⟩ := hs6.form_
  have HO6 := Lib.hid (HA5.out.up hb6)
  have HP6 := Lib.hid (HO6.out.up ((Below.refl _ _).al (.cells #[.slice A6 n6 c6, .int .i64 2, .slice D6 m6 d6] 25)))
  have HA6 := Lib.hid (At.new_ hs6 ht6)
  have HB6 := Lib.hid ((HB5.out.next hb6).al (.cells #[.slice A6 n6 c6, .int .i64 2, .slice D6 m6 d6] 25))
  have hg6 : w1.heap.size < w6.heap.size := HO6.out.blk.lt
  clear hs6 hb6 ht6
  clear x0 x1 x2 x3 x4 x5
  obtain ⟨x0, x1, x2, x3, x4, x5⟩ := HO6.out.c
  simp only at x1
  go_wp2_with fail
  refine (awc6 HA6.out).mono ?_
  rintro e w7 ⟨a7, b7, rfl, hs7, hb7, ht7⟩
  obtain ⟨A7, n7, c7, D7, m7, d7, rfl, rfl⟩ := hs7.form_
  have HO7 := Lib.hid (HP6.out.up hb7)
  have HQ7 := Lib.hid (HA6.out.up hb7)
  have HP7 := Lib.hid (HO7.out.up ((Below.refl _ _).al (.cells #[.slice A7 n7 c7, .int .i64 2, .slice D7 m7 d7] 25)))
  have HR7 := Lib.hid (HQ7.out.up ((Below.refl _ _).al (.cells #[.slice A7 n7 c7, .int .i64 2, .slice D7 m7 d7] 25)))
  have HA7 := Lib.hid (At.new_ hs7 ht7)
  have HB7 := Lib.hid ((HB6.out.next hb7).al (.cells #[.slice A7 n7 c7, .int .i64 2, .slice D7 m7 d7] 25))
  have hg7 : w6.heap.size < w7.heap.size := HQ7.out.blk.lt
  have hg7' : w1.heap.size < w7.heap.size := by omega
  clear hs7 hb7 ht7
  clear x0 x1 x2 x3 x4 x5
  obtain ⟨x0, x1, x2, x3, x4, x5⟩ := HO7.out.c
  simp only at x1
  obtain ⟨y0, y1, y2, y3, y4, y5⟩ := HQ7.out.c
  simp only at y1
  go_wp2_with fail
  refine (awc7 HA7.out).mono ?_
  rintro e w8 ⟨a8, b8, rfl, hs8, hb8, ht8⟩
  obtain ⟨A8, n8, c8, D8, m8, d8, rfl, rfl⟩ := hs8.form_
  have HO8 := Lib.hid (HP7.out.up hb8)
  have HQ8 := Lib.hid (HR7.out.up hb8)
  have HZ8 := Lib.hid (HA7.out.up hb8)
  have HA8 := Lib.hid (At.up HO8.out ((Below.refl _ _).al (.cells #[.slice A8 n8 c8, .int .i64 0, .slice D8 m8 d8] 25)))
  have HV8 := Lib.hid (At.up HQ8.out ((Below.refl _ _).al (.cells #[.slice A8 n8 c8, .int .i64 0, .slice D8 m8 d8] 25)))
  have HW8 := Lib.hid (At.up HZ8.out ((Below.refl _ _).al (.cells #[.slice A8 n8 c8, .int .i64 0, .slice D8 m8 d8] 25)))
  have HB8 := Lib.hid ((HB7.out.next hb8).al (.cells #[.slice A8 n8 c8, .int .i64 0, .slice D8 m8 d8] 25))
  have hg8 : w7.heap.size < w8.heap.size := HZ8.out.blk.lt
  have hg8' : w1.heap.size < w8.heap.size := by omega
  have hg8'' : w6.heap.size < w8.heap.size := by omega
  clear hs8 hb8 ht8
  clear x0 x1 x2 x3 x4 x5
  obtain ⟨x0, x1, x2, x3, x4, x5⟩ := HO8.out.c
  simp only at x1
  clear y0 y1 y2 y3 y4 y5
  obtain ⟨y0, y1, y2, y3, y4, y5⟩ := HQ8.out.c
  simp only at y1
  obtain ⟨z0, z1, z2, z3, z4, z5⟩ := HZ8.out.c
  simp only at z1
  go_wp2_with fail
  refine (awc8 HA8.out).mono ?_
  rintro e w9 ⟨rfl, hb9⟩
  have HV9 := Lib.hid (HV8.out.up hb9)
  have HW9 := Lib.hid (HW8.out.up hb9)
  have HB9 := Lib.hid (HB8.out.next hb9)
  clear hb9 x0 x1 x2 x3 x4 x5
  clear y0 y1 y2 y3 y4 y5
  obtain ⟨y0, y1, y2, y3, y4, y5⟩ := HV9.out.c
  simp only at y1
  clear z0 z1 z2 z3 z4 z5
  obtain ⟨z0, z1, z2, z3, z4, z5⟩ := HW9.out.c
  simp only at z1
  go_wp2_with fail
  refine (awc9 HW9.out).mono ?_
  rintro e w10 ⟨rfl, hb10⟩
  have HV10 := Lib.hid (HV9.out.up hb10)
  have HW10 := Lib.hid (HW9.out.up hb10)
  have HB10 := Lib.hid (HB9.out.next hb10)
  clear hb10
  clear y0 y1 y2 y3 y4 y5
  obtain ⟨y0, y1, y2, y3, y4, y5⟩ := HV10.out.c
  simp only at y1
  clear z0 z1 z2 z3 z4 z5
  obtain ⟨z0, z1, z2, z3, z4, z5⟩ := HW10.out.c
  simp only at z1
  go_wp2_with fail
  refine (awc10 HW10.out).mono ?_
  rintro e w11 ⟨rfl, hb11⟩
  have HV11 := Lib.hid (HV10.out.up hb11)
  have HB11 := Lib.hid (HB10.out.next hb11)
  clear hb11 z0 z1 z2 z3 z4 z5
  clear y0 y1 y2 y3 y4 y5
  obtain ⟨y0, y1, y2, y3, y4, y5⟩ := HV11.out.c
  simp only at y1
  go_wp2_with fail
  go_ret
  exact ⟨rfl, HB11.out⟩
end Go.Proofs.Ytmmdckijokiomaa
