/- CachemapStates: the walk (printed by genStates.py). -/
import Derived.Test.YtmmdckijokiomaaAny
namespace Go.Proofs.Ytmmdckijokiomaa
open Go.RowKit

theorem newR_len (k : Int) : (newR k).1.slots.length ≤ 1000000 ∧ (newR k).1.missed.length ≤ 1000000 := by
  unfold newR
  split
  · exact ⟨Nat.zero_le _, Nat.zero_le _⟩
  · refine ⟨?_, Nat.zero_le _⟩
    show (List.replicate k.toNat sz).length ≤ 1000000
    rw [List.length_replicate]
    omega

set_option maxRecDepth 100000 in
set_option maxHeartbeats 8000000 in
theorem states_walk (n : Int) (A : Option Addr) (m c : Nat) (l : List Int) (W : World) (hmc : m ≤ c) (hcm : c ≤ maxLen) (hr : Reads W W.heap.size 1 A m (I l)) :
    Calls Try.prog 3 #[.int .i64 n, .slice A m c] W (Ret (.bool true) W) := by
  have HR := Lib.hid hr
  have hmc := Lib.hid hmc
  have hcm := Lib.hid hcm
  clear hr
  have hn : n ≤ 50 ∨ (50 < n ∧ n ≤ 1024) ∨ (50 < n ∧ 1024 < n) := by omega
  rcases hn with hn | ⟨hn, hn2⟩ | ⟨hn, hn2⟩
  · go_enter Try.func3, Try.ntmps3
    obtain ⟨st, er, hr⟩ : ∃ st er, newR n = (st, er) := ⟨_, _, rfl⟩
    have hlen : st.slots.length ≤ 1000000 ∧ st.missed.length ≤ 1000000 := by have h := newR_len n; rw [hr] at h; exact h
    have HC1 := Lib.hid (hr ▸ new_any n W)
    have HC2 := Lib.hid (fun w => hr ▸ rnew_any n w)
    clear hr
    go_wp2_with fail
    refine HC1.out.mono ?_
    rintro e w1 ⟨a1, b1, rfl, hs1, hb1, ht1⟩
    obtain ⟨P1, n1, c1, Q1, m1, d1, rfl, rfl⟩ := hs1.form_
    have HA1 := Lib.hid (At.new_ hs1 ht1)
    have HB1 := Lib.hid (hb1.al (.cells #[.slice P1 n1 c1, .int .i64 st.clock, .slice Q1 m1 d1] 25))
    have hz1 := hb1.size
    clear hs1 hb1 ht1 HC1
    go_wp2_with fail
    refine (HC2.out _).mono ?_
    rintro e w2 ⟨a2, b2, rfl, hs2, hb2, ht2⟩
    obtain ⟨P2, n2, c2, Q2, m2, d2, rfl, rfl⟩ := hs2.form_
    have HU2 := Lib.hid (HA1.out.up hb2)
    have HA1b := Lib.hid (HU2.out.up ((Below.refl _ _).al (.cells #[.slice P2 n2 c2, .int .i64 st.clock, .slice Q2 m2 d2] 25)))
    have HA2 := Lib.hid (At.new_ hs2 ht2)
    have HB2 := Lib.hid ((HB1.out.next hb2).al (.cells #[.slice P2 n2 c2, .int .i64 st.clock, .slice Q2 m2 d2] 25))
    have hx2 : w1.heap.size < w2.heap.size := HU2.out.blk.lt
    obtain ⟨x0, x1, x2, x3, x4, x5⟩ := HU2.out.c
    have HC3 := Lib.hid (same_any HA1b.out.sv HA2.out.sv hlen.1 hlen.2)
    clear hs2 hb2 ht2 hlen HC2
    go_wp2_with fail
    refine HC3.out.mono ?_
    rintro e w3 ⟨rfl, hb3⟩
    have HB3 := Lib.hid (HB2.out.next hb3)
    clear hb3 HC3 HA1 HA2 HA1b HU2 HB1 HB2 x0 x1 x2 x3 x4 x5
    go_wp2_with fail
    refine (srcNew_any A m c l w3 hmc.out hcm.out ((HR.out.below HB3.out).more HB3.out.size)).mono ?_
    rintro e w4 ⟨rfl, hs4, hb4⟩
    have HS4 := Lib.hid (hs4)
    have HB4 := Lib.hid (HB3.out.next hb4)
    clear hs4 hb4
    go_wp2_with fail
    refine (any_any HS4.out).mono ?_
    rintro e w5 ⟨st5, a5, b5, rfl, hs5, ht5, _, _, _, _, ho5⟩
    obtain ⟨P5, n5, c5, Q5, m5, d5, rfl, rfl⟩ := hs5.form_
    have HA5 := Lib.hid (At.new_ hs5 ht5)
    have HB5 := Lib.hid ((HB4.out.trans (ho5.below HB4.out.size (fun k e => by rw [e]; exact HB3.out.size))).al (.cells #[.slice P5 n5 c5, .int .i64 st5.clock, .slice Q5 m5 d5] 25))
    clear hs5 ht5 ho5 HS4 HB3 HB4
    obtain ⟨p0, p1, p2, _, _, _⟩ := HA5.out.c
    have e0 := CalmW.cell p0
    have e1 := CalmW.cell p1
    have e2 := CalmW.cell p2
    clear p0 p1 p2
    have HQ := Lib.hid (fun (n : CalmW (w5.alloc (.cells #[.slice P5 n5 c5, .int .i64 st5.clock, .slice Q5 m5 d5] 25))) => HA5.out.up n.ok)
    go_wp2_with fail
    refine wp_region_calm (by kernel_rfl) (by kernel_rfl) ?_
    repeat (go_big_quiet_step (first | (go_at_call 13; exact Calls.calm (valid_any (HQ.out _).sv)) | (go_at_call 14; exact Calls.calm (rvalid_any (HQ.out _).sv)) | (go_at_call 15; exact Calls.calm (awake_any _))))
    refine wpQuiet_nil ?_
    rintro _ ⟨n9, rfl⟩
    go_wp2_with fail
    go_ret
    exact ⟨rfl, HB5.out.next n9.ok⟩
  · go_enter Try.func3, Try.ntmps3
    obtain ⟨st, er, hr⟩ : ∃ st er, newR (n % 50) = (st, er) := ⟨_, _, rfl⟩
    have hlen : st.slots.length ≤ 1000000 ∧ st.missed.length ≤ 1000000 := by have h := newR_len (n % 50); rw [hr] at h; exact h
    have HC1 := Lib.hid (hr ▸ new_any (n % 50) W)
    have HC2 := Lib.hid (fun w => hr ▸ rnew_any (n % 50) w)
    clear hr
    go_wp2_with fail
    refine HC1.out.mono ?_
    rintro e w1 ⟨a1, b1, rfl, hs1, hb1, ht1⟩
    obtain ⟨P1, n1, c1, Q1, m1, d1, rfl, rfl⟩ := hs1.form_
    have HA1 := Lib.hid (At.new_ hs1 ht1)
    have HB1 := Lib.hid (hb1.al (.cells #[.slice P1 n1 c1, .int .i64 st.clock, .slice Q1 m1 d1] 25))
    have hz1 := hb1.size
    clear hs1 hb1 ht1 HC1
    go_wp2_with fail
    refine (HC2.out _).mono ?_
    rintro e w2 ⟨a2, b2, rfl, hs2, hb2, ht2⟩
    obtain ⟨P2, n2, c2, Q2, m2, d2, rfl, rfl⟩ := hs2.form_
    have HU2 := Lib.hid (HA1.out.up hb2)
    have HA1b := Lib.hid (HU2.out.up ((Below.refl _ _).al (.cells #[.slice P2 n2 c2, .int .i64 st.clock, .slice Q2 m2 d2] 25)))
    have HA2 := Lib.hid (At.new_ hs2 ht2)
    have HB2 := Lib.hid ((HB1.out.next hb2).al (.cells #[.slice P2 n2 c2, .int .i64 st.clock, .slice Q2 m2 d2] 25))
    have hx2 : w1.heap.size < w2.heap.size := HU2.out.blk.lt
    obtain ⟨x0, x1, x2, x3, x4, x5⟩ := HU2.out.c
    have HC3 := Lib.hid (same_any HA1b.out.sv HA2.out.sv hlen.1 hlen.2)
    clear hs2 hb2 ht2 hlen HC2
    go_wp2_with fail
    refine HC3.out.mono ?_
    rintro e w3 ⟨rfl, hb3⟩
    have HB3 := Lib.hid (HB2.out.next hb3)
    clear hb3 HC3 HA1 HA2 HA1b HU2 HB1 HB2 x0 x1 x2 x3 x4 x5
    go_wp2_with fail
    refine (srcNew_any A m c l w3 hmc.out hcm.out ((HR.out.below HB3.out).more HB3.out.size)).mono ?_
    rintro e w4 ⟨rfl, hs4, hb4⟩
    have HS4 := Lib.hid (hs4)
    have HB4 := Lib.hid (HB3.out.next hb4)
    clear hs4 hb4
    go_wp2_with fail
    refine (any_any HS4.out).mono ?_
    rintro e w5 ⟨st5, a5, b5, rfl, hs5, ht5, _, _, _, _, ho5⟩
    obtain ⟨P5, n5, c5, Q5, m5, d5, rfl, rfl⟩ := hs5.form_
    have HA5 := Lib.hid (At.new_ hs5 ht5)
    have HB5 := Lib.hid ((HB4.out.trans (ho5.below HB4.out.size (fun k e => by rw [e]; exact HB3.out.size))).al (.cells #[.slice P5 n5 c5, .int .i64 st5.clock, .slice Q5 m5 d5] 25))
    clear hs5 ht5 ho5 HS4 HB3 HB4
    obtain ⟨p0, p1, p2, _, _, _⟩ := HA5.out.c
    have e0 := CalmW.cell p0
    have e1 := CalmW.cell p1
    have e2 := CalmW.cell p2
    clear p0 p1 p2
    have HQ := Lib.hid (fun (n : CalmW (w5.alloc (.cells #[.slice P5 n5 c5, .int .i64 st5.clock, .slice Q5 m5 d5] 25))) => HA5.out.up n.ok)
    go_wp2_with fail
    refine wp_region_calm (by kernel_rfl) (by kernel_rfl) ?_
    repeat (go_big_quiet_step (first | (go_at_call 13; exact Calls.calm (valid_any (HQ.out _).sv)) | (go_at_call 14; exact Calls.calm (rvalid_any (HQ.out _).sv)) | (go_at_call 15; exact Calls.calm (awake_any _))))
    refine wpQuiet_nil ?_
    rintro _ ⟨n9, rfl⟩
    go_wp2_with fail
    go_ret
    exact ⟨rfl, HB5.out.next n9.ok⟩
  · go_enter Try.func3, Try.ntmps3
    obtain ⟨st, er, hr⟩ : ∃ st er, newR n = (st, er) := ⟨_, _, rfl⟩
    have hlen : st.slots.length ≤ 1000000 ∧ st.missed.length ≤ 1000000 := by have h := newR_len n; rw [hr] at h; exact h
    have HC1 := Lib.hid (hr ▸ new_any n W)
    have HC2 := Lib.hid (fun w => hr ▸ rnew_any n w)
    clear hr
    go_wp2_with fail
    refine HC1.out.mono ?_
    rintro e w1 ⟨a1, b1, rfl, hs1, hb1, ht1⟩
    obtain ⟨P1, n1, c1, Q1, m1, d1, rfl, rfl⟩ := hs1.form_
    have HA1 := Lib.hid (At.new_ hs1 ht1)
    have HB1 := Lib.hid (hb1.al (.cells #[.slice P1 n1 c1, .int .i64 st.clock, .slice Q1 m1 d1] 25))
    have hz1 := hb1.size
    clear hs1 hb1 ht1 HC1
    go_wp2_with fail
    refine (HC2.out _).mono ?_
    rintro e w2 ⟨a2, b2, rfl, hs2, hb2, ht2⟩
    obtain ⟨P2, n2, c2, Q2, m2, d2, rfl, rfl⟩ := hs2.form_
    have HU2 := Lib.hid (HA1.out.up hb2)
    have HA1b := Lib.hid (HU2.out.up ((Below.refl _ _).al (.cells #[.slice P2 n2 c2, .int .i64 st.clock, .slice Q2 m2 d2] 25)))
    have HA2 := Lib.hid (At.new_ hs2 ht2)
    have HB2 := Lib.hid ((HB1.out.next hb2).al (.cells #[.slice P2 n2 c2, .int .i64 st.clock, .slice Q2 m2 d2] 25))
    have hx2 : w1.heap.size < w2.heap.size := HU2.out.blk.lt
    obtain ⟨x0, x1, x2, x3, x4, x5⟩ := HU2.out.c
    have HC3 := Lib.hid (same_any HA1b.out.sv HA2.out.sv hlen.1 hlen.2)
    clear hs2 hb2 ht2 hlen HC2
    go_wp2_with fail
    refine HC3.out.mono ?_
    rintro e w3 ⟨rfl, hb3⟩
    have HB3 := Lib.hid (HB2.out.next hb3)
    clear hb3 HC3 HA1 HA2 HA1b HU2 HB1 HB2 x0 x1 x2 x3 x4 x5
    go_wp2_with fail
    refine (srcNew_any A m c l w3 hmc.out hcm.out ((HR.out.below HB3.out).more HB3.out.size)).mono ?_
    rintro e w4 ⟨rfl, hs4, hb4⟩
    have HS4 := Lib.hid (hs4)
    have HB4 := Lib.hid (HB3.out.next hb4)
    clear hs4 hb4
    go_wp2_with fail
    refine (any_any HS4.out).mono ?_
    rintro e w5 ⟨st5, a5, b5, rfl, hs5, ht5, _, _, _, _, ho5⟩
    obtain ⟨P5, n5, c5, Q5, m5, d5, rfl, rfl⟩ := hs5.form_
    have HA5 := Lib.hid (At.new_ hs5 ht5)
    have HB5 := Lib.hid ((HB4.out.trans (ho5.below HB4.out.size (fun k e => by rw [e]; exact HB3.out.size))).al (.cells #[.slice P5 n5 c5, .int .i64 st5.clock, .slice Q5 m5 d5] 25))
    clear hs5 ht5 ho5 HS4 HB3 HB4
    obtain ⟨p0, p1, p2, _, _, _⟩ := HA5.out.c
    have e0 := CalmW.cell p0
    have e1 := CalmW.cell p1
    have e2 := CalmW.cell p2
    clear p0 p1 p2
    have HQ := Lib.hid (fun (n : CalmW (w5.alloc (.cells #[.slice P5 n5 c5, .int .i64 st5.clock, .slice Q5 m5 d5] 25))) => HA5.out.up n.ok)
    go_wp2_with fail
    refine wp_region_calm (by kernel_rfl) (by kernel_rfl) ?_
    repeat (go_big_quiet_step (first | (go_at_call 13; exact Calls.calm (valid_any (HQ.out _).sv)) | (go_at_call 14; exact Calls.calm (rvalid_any (HQ.out _).sv)) | (go_at_call 15; exact Calls.calm (awake_any _))))
    refine wpQuiet_nil ?_
    rintro _ ⟨n9, rfl⟩
    go_wp2_with fail
    go_ret
    exact ⟨rfl, HB5.out.next n9.ok⟩
end Go.Proofs.Ytmmdckijokiomaa
