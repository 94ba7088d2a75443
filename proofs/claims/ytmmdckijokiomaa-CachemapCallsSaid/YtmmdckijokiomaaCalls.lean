/- CachemapCalls: the walk (printed by genCalls.py). -/
import Derived.Test.YtmmdckijokiomaaCallsP
namespace Go.Proofs.Ytmmdckijokiomaa
open Go.RowKit

set_option maxRecDepth 100000 in
set_option maxHeartbeats 8000000 in
theorem calls_walk (A : Option Addr) (m c : Nat) (l : List Int) (W : World) (hmc : m ≤ c) (hcm : c ≤ maxLen) (hr : Reads W W.heap.size 1 A m (I l)) :
    Calls Try.prog 4 #[.slice A m c] W (Ret (.bool true) W) := by
  have HN := Lib.hid (srcNew_any A m c l W hmc hcm hr)
  clear hr hmc hcm
  go_enter Try.func4, Try.ntmps4
  go_wp2_with fail
  refine HN.out.mono ?_
  rintro e w1 ⟨rfl, hs1, hb1⟩
  have HS1 := Lib.hid hs1
  have HB1 := Lib.hid hb1
  clear hs1 hb1 HN
  go_wp2_with fail
  refine (any_any HS1.out).mono ?_
  rintro e w2 ⟨st0, a0, b0, rfl, hs2, ht2, _, h05, h09, hsr2, ho2⟩
  obtain ⟨P0, n0, c0, Q0, m0, d0, rfl, rfl⟩ := hs2.form_
  have HG2 := Lib.hid (Bag.one (At.new_ hs2 ht2) ((HB1.out.trans (ho2.below HS1.out.lt.2.2 (fun k e => by rw [e]; exact Nat.le_refl _))).al (.cells #[.slice P0 n0 c0, .int .i64 st0.clock, .slice Q0 m0 d0] 25)) (hsr2.below ((Below.refl _ _).al (.cells #[.slice P0 n0 c0, .int .i64 st0.clock, .slice Q0 m0 d0] 25))))
  have hw2 : W.heap.size ≤ w2.heap.size := hsr2.lt.2.2
  clear hs2 ht2 hsr2 ho2 HS1 HB1
  go_wp2_with fail
  go_loopw [5] (fun v wr => ∃ (j : Nat) (st : St) (a b : Value), j ≤ 10 ∧ v = .int .i64 (j : Int) ∧ Sh st ∧ Bag W wr [(w2.heap.size, st, a, b)]) (fun v _ => 10 - (intOf v).toNat)
  case atStart => exact ⟨0, st0, _, _, by omega, rfl, ⟨h05, h09⟩, HG2.out⟩
  case round =>
    clear h05 h09 HG2
    obtain ⟨j, st, a, b, hj, rfl, hsh, hbag⟩ := hrel
    obtain ⟨⟨A2, c2, e2, _, _⟩, ⟨D2, d2, e3, _, _⟩⟩ := id hbag.at0.sv
    subst e2 e3
    have HG := Lib.hid hbag
    have HSH := Lib.hid hsh
    have hl5 := hsh.1
    clear hbag hsh
    by_cases hlt : j < 10
    case neg =>
      obtain rfl : j = 10 := by omega
      go_wp2_with fail
      refine (awake_any wr).mono ?_
      rintro e w3 ⟨rfl, hb3⟩
      have HB3 := Lib.hid (HG.out.b.next hb3)
      clear hb3
      go_wp2_with fail
      go_ret
      exact ⟨rfl, HB3.out⟩
    have j1 : (j : Int) < 10 := by omega
    obtain ⟨x0, x1, x2, x3, x4, x5⟩ := HG.out.at0.c
    go_wp2_with fail
    refine (srcN_any W.heap.size W.heap.size ((st.slots.length : Int) + 2) wr HG.out.s (by omega) (by omega)).mono ?_
    rintro e w3 ⟨k0, ⟨hk0, hk1⟩, rfl, hs3, ho3⟩
    have HG3 := Lib.hid (HG.out.srcd hs3 ho3)
    clear hs3 ho3 HG x0 x1 x2 x3 x4 x5
    go_wp2_with fail
    refine (srcN_any W.heap.size W.heap.size 14 w3 HG3.out.s (by omega) (by omega)).mono ?_
    rintro e w4 ⟨b1, ⟨hb10, hb11⟩, rfl, hs4, ho4⟩
    have HG4 := Lib.hid (HG3.out.srcd hs4 ho4)
    clear hs4 ho4 HG3
    go_wp2_with fail
    refine (srcN_any W.heap.size W.heap.size 14 w4 HG4.out.s (by omega) (by omega)).mono ?_
    rintro e w5 ⟨b2, ⟨hb20, hb21⟩, rfl, hs5, ho5⟩
    have HG5 := Lib.hid (HG4.out.srcd hs5 ho5)
    clear hs5 ho5 HG4
    go_wp2_with fail
    refine (srcPick_any W.heap.size W.heap.size (some ⟨w5.heap.size, 0, none⟩) 5 5 _ _ (HG5.out.s.below ((Below.refl _ _).al _)) (fun _ => True) (by omega) (by omega) (pick5 b1 b2 rfl) (fun ad e => by injection e with e; rw [← e]; have := HG5.out.s.lt.2.1; show w5.heap.size ≠ W.heap.size; omega) (fun _ _ => trivial)).mono ?_
    rintro e w6 ⟨bb, _, rfl, hs6, ho6⟩
    have HG6 := Lib.hid ((HG5.out.up ((Below.refl _ _).al _)).srcd hs6 ho6)
    clear hs6 ho6 HG5 hb10 hb11 hb20 hb21
    obtain ⟨p0, p1, p2, p3, p4, p5⟩ := HG6.out.at0.c
    have e0 := CalmW.cell p0
    have e1 := CalmW.cell p1
    have e2 := CalmW.cell p2
    clear p0 p1 p2 p3 p4 p5
    have HQ := Lib.hid (fun (n : CalmW w6) => (HG6.out.up n.ok).at0)
    obtain ⟨ff, hff⟩ : ∃ f, findB st bb = f := ⟨_, rfl⟩
    obtain ⟨fo, hfo⟩ : ∃ f, oldestI st = f := ⟨_, rfl⟩
    have HF1 := Lib.hid (fun (n : CalmW w6) => hff ▸ find_anyB (b := bb) (HQ.out n).sv)
    have HF2 := Lib.hid (fun (n : CalmW w6) => rfind_any (b := bb) (HQ.out n).sv hff)
    have HF3 := Lib.hid (fun (n : CalmW w6) => hfo ▸ oldest_any (HQ.out n).sv)
    have HF4 := Lib.hid (fun (n : CalmW w6) => hfo ▸ roldest_any (HQ.out n).sv)
    clear hff hfo
    go_wp2_with fail
    refine wp_region_calm (by kernel_rfl) (by kernel_rfl) ?_
    repeat (go_big_quiet_step (first | (go_at_call 18; exact Calls.calm (HF1.out _)) | (go_at_call 19; exact Calls.calm (HF2.out _)) | (go_at_call 20; exact Calls.calm (HF3.out _)) | (go_at_call 21; exact Calls.calm (HF4.out _))))
    refine wpQuiet_nil ?_
    rintro _ ⟨n7, rfl⟩
    have HG7 := Lib.hid (HG6.out.up n7.ok)
    clear e0 e1 e2 HF1 HF2 HF3 HF4 HQ HG6
    generalize n7.w = w7 at *
    obtain ⟨x0, x1, x2, x3, x4, x5⟩ := HG7.out.at0.c
    obtain ⟨vv, ve, hvv⟩ := victimV_form st
    have HV1 := Lib.hid (fun w (h : At w w2.heap.size st (.slice A2 st.slots.length c2) (.slice D2 st.missed.length d2)) => hvv ▸ victim_any h.sv)
    have HV2 := Lib.hid (fun w (h : At w w2.heap.size st (.slice A2 st.slots.length c2) (.slice D2 st.missed.length d2)) => hvv ▸ rvictim_any h.sv)
    clear hvv
    go_wp2_with fail
    refine (HV1.out _ HG7.out.at0).mono ?_
    rintro e w8 ⟨rfl, hb8⟩
    have HG8 := Lib.hid (HG7.out.up hb8)
    clear hb8 HG7 HV1 x0 x1 x2 x3 x4 x5
    obtain ⟨x0, x1, x2, x3, x4, x5⟩ := HG8.out.at0.c
    go_wp2_with fail
    refine (HV2.out _ HG8.out.at0).mono ?_
    rintro e w9 ⟨rfl, hb9⟩
    have HG9 := Lib.hid (HG8.out.up hb9)
    clear hb9 HG8 HV2 x0 x1 x2 x3 x4 x5
    have HGA := Lib.hid ((HG9.out.zero).zeroAt (g := w9.heap.size + 1) (by simp))
    have hx9 : w2.heap.size < w9.heap.size := HG9.out.at0.blk.lt
    have hy9 : w9.heap.size < w9.heap.size + 1 := by omega
    have hxz : w2.heap.size < w9.heap.size + 1 := by omega
    clear HG9
    go_wp2_with fail
    refine (srcN_any W.heap.size W.heap.size 5 _ HGA.out.s (by omega) (by omega)).mono ?_
    rintro e w10 ⟨cc, ⟨hcc0, hcc1⟩, rfl, hs10, ho10⟩
    have HG10 := Lib.hid (HGA.out.srcd hs10 ho10)
    clear hs10 ho10 HGA
    have hwy : W.heap.size ≤ w9.heap.size := by omega
    have hcc : cc = 0 ∨ cc = 1 ∨ cc = 2 ∨ cc = 3 ∨ cc = 4 := by omega
    rcases hcc with rfl | rfl | rfl | rfl | rfl
    · clear hcc0 hcc1
      obtain ⟨x0, x1, x2, x3, x4, x5⟩ := HG10.out.tl.tl.at0.c
      obtain ⟨y0, y1, y2, y3, y4, y5⟩ := HG10.out.tl.at0.c
      obtain ⟨z0, z1, z2, z3, z4, z5⟩ := HG10.out.at0.c
      obtain ⟨stt, er, hr⟩ : ∃ stt er, touchR st (k0 - 1) = (stt, er) := ⟨_, _, rfl⟩
      have HSt := Lib.hid (show Sh stt from by have h := sh_touch (k := k0 - 1) HSH.out; rw [hr] at h; exact h)
      have HC1 := Lib.hid (fun w (h : At w w2.heap.size st (.slice A2 st.slots.length c2) (.slice D2 st.missed.length d2)) => hr ▸ touch_any (k := k0 - 1) h.sv)
      have HC2 := Lib.hid (fun w (h : At w w2.heap.size st (.slice A2 st.slots.length c2) (.slice D2 st.missed.length d2)) => hr ▸ rtouch_any (k := k0 - 1) h.sv)
      clear hr
      go_wp2_with fail
      refine (HC1.out _ HG10.out.tl.tl.at0).mono ?_
      rintro e w11 ⟨a11, b11, rfl, hs11, hb11, ht11⟩
      replace hs11 : SV w11 w11.heap.size stt a11 b11 := hs11
      obtain ⟨⟨P11, c11, e11, _, _⟩, ⟨Q11, d11, e12, _, _⟩⟩ := id hs11
      subst e11 e12
      have HU11 := Lib.hid (HG10.out.up hb11)
      have HG11 := Lib.hid ((HU11.out.swap.put hwy (ne_two (Nat.ne_of_gt hy9) (Nat.ne_of_lt hx9)) hs11 ht11).swap)
      clear hs11 hb11 ht11 HC1 HG10 x0 x1 x2 x3 x4 x5 y0 y1 y2 y3 y4 y5 z0 z1 z2 z3 z4 z5
      obtain ⟨x0, x1, x2, x3, x4, x5⟩ := HU11.out.tl.tl.at0.c
      obtain ⟨y0, y1, y2, y3, y4, y5⟩ := HU11.out.tl.at0.c
      obtain ⟨z0, z1, z2, z3, z4, z5⟩ := HU11.out.at0.c
      go_wp2_with fail
      refine (HC2.out _ HG11.out.tl.tl.at0).mono ?_
      rintro e w12 ⟨a12, b12, rfl, hs12, hb12, ht12⟩
      replace hs12 : SV w12 w12.heap.size stt a12 b12 := hs12
      obtain ⟨⟨P12, c12, e11, _, _⟩, ⟨Q12, d12, e12, _, _⟩⟩ := id hs12
      subst e11 e12
      have HU12 := Lib.hid (HG11.out.up hb12)
      have HG12 := Lib.hid (HU12.out.put (by omega) (ne_two (Nat.ne_of_lt hy9) (Nat.ne_of_lt hxz)) hs12 ht12)
      clear hs12 hb12 ht12 HC2 HG11 HU11 x0 x1 x2 x3 x4 x5 y0 y1 y2 y3 y4 y5 z0 z1 z2 z3 z4 z5
      obtain ⟨x0, x1, x2, x3, x4, x5⟩ := HU12.out.tl.tl.at0.c
      obtain ⟨y0, y1, y2, y3, y4, y5⟩ := HU12.out.tl.at0.c
      obtain ⟨z0, z1, z2, z3, z4, z5⟩ := HU12.out.at0.c
      have HCS := Lib.hid (same_any HG12.out.tl.at0.sv HG12.out.at0.sv (by have := HSt.out.1; omega) (by have := HSt.out.2; omega))
      go_wp2_with fail
      refine HCS.out.mono ?_
      rintro e w13 ⟨rfl, hb13⟩
      have HG13 := Lib.hid (HG12.out.up hb13)
      clear hb13 HCS HG12 HU12 x0 x1 x2 x3 x4 x5 y0 y1 y2 y3 y4 y5 z0 z1 z2 z3 z4 z5
      obtain ⟨x0, x1, x2, x3, x4, x5⟩ := HG13.out.tl.tl.at0.c
      obtain ⟨z0, z1, z2, z3, z4, z5⟩ := HG13.out.at0.c
      by_cases he : er = 0
      · subst he
        have HGE := Lib.hid (Bag.put HG13.out.tl.tl hw2 (fun x hx => absurd hx List.not_mem_nil) HG13.out.at0.sv HG13.out.at0.typ)
        go_wp2_with fail
        go_roundw
        case rel => exact ⟨j + 1, stt, _, _, by omega, by go_num, HSt.out, HGE.out⟩
        case measure => simp [intOf]; omega
      · have q1 : (er == 0) = false := beq_eq_false_iff_ne.2 he
        clear he
        go_wp2_with fail
        go_roundw
        case rel => exact ⟨j + 1, st, _, _, by omega, by go_num, HSH.out, HG13.out.tl.tl⟩
        case measure => simp [intOf]; omega
    · clear hcc0 hcc1
      obtain ⟨x0, x1, x2, x3, x4, x5⟩ := HG10.out.tl.tl.at0.c
      obtain ⟨y0, y1, y2, y3, y4, y5⟩ := HG10.out.tl.at0.c
      obtain ⟨z0, z1, z2, z3, z4, z5⟩ := HG10.out.at0.c
      obtain ⟨stt, qq, er, hr⟩ : ∃ stt qq er, missR st bb = (stt, qq, er) := ⟨_, _, _, rfl⟩
      have HSt := Lib.hid (show Sh stt from by have h := sh_miss (b := bb) HSH.out; rw [hr] at h; exact h)
      have HC1 := Lib.hid (fun w (h : At w w2.heap.size st (.slice A2 st.slots.length c2) (.slice D2 st.missed.length d2)) => hr ▸ miss_any (b := bb) h.sv)
      have HC2 := Lib.hid (fun w (h : At w w2.heap.size st (.slice A2 st.slots.length c2) (.slice D2 st.missed.length d2)) => hr ▸ rmiss_any (b := bb) h.sv)
      clear hr
      go_wp2_with fail
      refine (HC1.out _ HG10.out.tl.tl.at0).mono ?_
      rintro e w11 ⟨a11, b11, rfl, hs11, hb11, ht11⟩
      replace hs11 : SV w11 w11.heap.size stt a11 b11 := hs11
      obtain ⟨⟨P11, c11, e11, _, _⟩, ⟨Q11, d11, e12, _, _⟩⟩ := id hs11
      subst e11 e12
      have HU11 := Lib.hid (HG10.out.up hb11)
      have HG11 := Lib.hid ((HU11.out.swap.put hwy (ne_two (Nat.ne_of_gt hy9) (Nat.ne_of_lt hx9)) hs11 ht11).swap)
      clear hs11 hb11 ht11 HC1 HG10 x0 x1 x2 x3 x4 x5 y0 y1 y2 y3 y4 y5 z0 z1 z2 z3 z4 z5
      obtain ⟨x0, x1, x2, x3, x4, x5⟩ := HU11.out.tl.tl.at0.c
      obtain ⟨y0, y1, y2, y3, y4, y5⟩ := HU11.out.tl.at0.c
      obtain ⟨z0, z1, z2, z3, z4, z5⟩ := HU11.out.at0.c
      go_wp2_with fail
      refine (HC2.out _ HG11.out.tl.tl.at0).mono ?_
      rintro e w12 ⟨a12, b12, rfl, hs12, hb12, ht12⟩
      replace hs12 : SV w12 w12.heap.size stt a12 b12 := hs12
      obtain ⟨⟨P12, c12, e11, _, _⟩, ⟨Q12, d12, e12, _, _⟩⟩ := id hs12
      subst e11 e12
      have HU12 := Lib.hid (HG11.out.up hb12)
      have HG12 := Lib.hid (HU12.out.put (by omega) (ne_two (Nat.ne_of_lt hy9) (Nat.ne_of_lt hxz)) hs12 ht12)
      clear hs12 hb12 ht12 HC2 HG11 HU11 x0 x1 x2 x3 x4 x5 y0 y1 y2 y3 y4 y5 z0 z1 z2 z3 z4 z5
      obtain ⟨x0, x1, x2, x3, x4, x5⟩ := HU12.out.tl.tl.at0.c
      obtain ⟨y0, y1, y2, y3, y4, y5⟩ := HU12.out.tl.at0.c
      obtain ⟨z0, z1, z2, z3, z4, z5⟩ := HU12.out.at0.c
      have HCS := Lib.hid (same_any HG12.out.tl.at0.sv HG12.out.at0.sv (by have := HSt.out.1; omega) (by have := HSt.out.2; omega))
      go_wp2_with fail
      refine HCS.out.mono ?_
      rintro e w13 ⟨rfl, hb13⟩
      have HG13 := Lib.hid (HG12.out.up hb13)
      clear hb13 HCS HG12 HU12 x0 x1 x2 x3 x4 x5 y0 y1 y2 y3 y4 y5 z0 z1 z2 z3 z4 z5
      obtain ⟨x0, x1, x2, x3, x4, x5⟩ := HG13.out.tl.tl.at0.c
      obtain ⟨z0, z1, z2, z3, z4, z5⟩ := HG13.out.at0.c
      by_cases he : er = 0
      · subst he
        have HGE := Lib.hid (Bag.put HG13.out.tl.tl hw2 (fun x hx => absurd hx List.not_mem_nil) HG13.out.at0.sv HG13.out.at0.typ)
        go_wp2_with fail
        go_roundw
        case rel => exact ⟨j + 1, stt, _, _, by omega, by go_num, HSt.out, HGE.out⟩
        case measure => simp [intOf]; omega
      · have q1 : (er == 0) = false := beq_eq_false_iff_ne.2 he
        clear he
        go_wp2_with fail
        go_roundw
        case rel => exact ⟨j + 1, st, _, _, by omega, by go_num, HSH.out, HG13.out.tl.tl⟩
        case measure => simp [intOf]; omega
    · clear hcc0 hcc1
      obtain ⟨x0, x1, x2, x3, x4, x5⟩ := HG10.out.tl.tl.at0.c
      obtain ⟨y0, y1, y2, y3, y4, y5⟩ := HG10.out.tl.at0.c
      obtain ⟨z0, z1, z2, z3, z4, z5⟩ := HG10.out.at0.c
      obtain ⟨stt, er, hr⟩ : ∃ stt er, placeR st (k0 - 1) bb = (stt, er) := ⟨_, _, rfl⟩
      have HSt := Lib.hid (show Sh stt from by have h := sh_place (k := k0 - 1) (b := bb) HSH.out; rw [hr] at h; exact h)
      have HC1 := Lib.hid (fun w (h : At w w2.heap.size st (.slice A2 st.slots.length c2) (.slice D2 st.missed.length d2)) => hr ▸ place_any (k := k0 - 1) (b := bb) h.sv)
      have HC2 := Lib.hid (fun w (h : At w w2.heap.size st (.slice A2 st.slots.length c2) (.slice D2 st.missed.length d2)) => hr ▸ rplace_any (k := k0 - 1) (b := bb) h.sv)
      clear hr
      go_wp2_with fail
      refine (HC1.out _ HG10.out.tl.tl.at0).mono ?_
      rintro e w11 ⟨a11, b11, rfl, hs11, hb11, ht11⟩
      replace hs11 : SV w11 w11.heap.size stt a11 b11 := hs11
      obtain ⟨⟨P11, c11, e11, _, _⟩, ⟨Q11, d11, e12, _, _⟩⟩ := id hs11
      subst e11 e12
      have HU11 := Lib.hid (HG10.out.up hb11)
      have HG11 := Lib.hid ((HU11.out.swap.put hwy (ne_two (Nat.ne_of_gt hy9) (Nat.ne_of_lt hx9)) hs11 ht11).swap)
      clear hs11 hb11 ht11 HC1 HG10 x0 x1 x2 x3 x4 x5 y0 y1 y2 y3 y4 y5 z0 z1 z2 z3 z4 z5
      obtain ⟨x0, x1, x2, x3, x4, x5⟩ := HU11.out.tl.tl.at0.c
      obtain ⟨y0, y1, y2, y3, y4, y5⟩ := HU11.out.tl.at0.c
      obtain ⟨z0, z1, z2, z3, z4, z5⟩ := HU11.out.at0.c
      go_wp2_with fail
      refine (HC2.out _ HG11.out.tl.tl.at0).mono ?_
      rintro e w12 ⟨a12, b12, rfl, hs12, hb12, ht12⟩
      replace hs12 : SV w12 w12.heap.size stt a12 b12 := hs12
      obtain ⟨⟨P12, c12, e11, _, _⟩, ⟨Q12, d12, e12, _, _⟩⟩ := id hs12
      subst e11 e12
      have HU12 := Lib.hid (HG11.out.up hb12)
      have HG12 := Lib.hid (HU12.out.put (by omega) (ne_two (Nat.ne_of_lt hy9) (Nat.ne_of_lt hxz)) hs12 ht12)
      clear hs12 hb12 ht12 HC2 HG11 HU11 x0 x1 x2 x3 x4 x5 y0 y1 y2 y3 y4 y5 z0 z1 z2 z3 z4 z5
      obtain ⟨x0, x1, x2, x3, x4, x5⟩ := HU12.out.tl.tl.at0.c
      obtain ⟨y0, y1, y2, y3, y4, y5⟩ := HU12.out.tl.at0.c
      obtain ⟨z0, z1, z2, z3, z4, z5⟩ := HU12.out.at0.c
      have HCS := Lib.hid (same_any HG12.out.tl.at0.sv HG12.out.at0.sv (by have := HSt.out.1; omega) (by have := HSt.out.2; omega))
      go_wp2_with fail
      refine HCS.out.mono ?_
      rintro e w13 ⟨rfl, hb13⟩
      have HG13 := Lib.hid (HG12.out.up hb13)
      clear hb13 HCS HG12 HU12 x0 x1 x2 x3 x4 x5 y0 y1 y2 y3 y4 y5 z0 z1 z2 z3 z4 z5
      obtain ⟨x0, x1, x2, x3, x4, x5⟩ := HG13.out.tl.tl.at0.c
      obtain ⟨z0, z1, z2, z3, z4, z5⟩ := HG13.out.at0.c
      by_cases he : er = 0
      · subst he
        have HGE := Lib.hid (Bag.put HG13.out.tl.tl hw2 (fun x hx => absurd hx List.not_mem_nil) HG13.out.at0.sv HG13.out.at0.typ)
        go_wp2_with fail
        go_roundw
        case rel => exact ⟨j + 1, stt, _, _, by omega, by go_num, HSt.out, HGE.out⟩
        case measure => simp [intOf]; omega
      · have q1 : (er == 0) = false := beq_eq_false_iff_ne.2 he
        clear he
        go_wp2_with fail
        go_roundw
        case rel => exact ⟨j + 1, st, _, _, by omega, by go_num, HSH.out, HG13.out.tl.tl⟩
        case measure => simp [intOf]; omega
    · clear hcc0 hcc1
      obtain ⟨x0, x1, x2, x3, x4, x5⟩ := HG10.out.tl.tl.at0.c
      obtain ⟨y0, y1, y2, y3, y4, y5⟩ := HG10.out.tl.at0.c
      obtain ⟨z0, z1, z2, z3, z4, z5⟩ := HG10.out.at0.c
      obtain ⟨stt, er, hr⟩ : ∃ stt er, clearR st (k0 - 1) = (stt, er) := ⟨_, _, rfl⟩
      have HSt := Lib.hid (show Sh stt from by have h := sh_clear (k := k0 - 1) HSH.out; rw [hr] at h; exact h)
      have HC1 := Lib.hid (fun w (h : At w w2.heap.size st (.slice A2 st.slots.length c2) (.slice D2 st.missed.length d2)) => hr ▸ clear_any (k := k0 - 1) h.sv)
      have HC2 := Lib.hid (fun w (h : At w w2.heap.size st (.slice A2 st.slots.length c2) (.slice D2 st.missed.length d2)) => hr ▸ rclear_any (k := k0 - 1) h.sv)
      clear hr
      go_wp2_with fail
      refine (HC1.out _ HG10.out.tl.tl.at0).mono ?_
      rintro e w11 ⟨a11, b11, rfl, hs11, hb11, ht11⟩
      replace hs11 : SV w11 w11.heap.size stt a11 b11 := hs11
      obtain ⟨⟨P11, c11, e11, _, _⟩, ⟨Q11, d11, e12, _, _⟩⟩ := id hs11
      subst e11 e12
      have HU11 := Lib.hid (HG10.out.up hb11)
      have HG11 := Lib.hid ((HU11.out.swap.put hwy (ne_two (Nat.ne_of_gt hy9) (Nat.ne_of_lt hx9)) hs11 ht11).swap)
      clear hs11 hb11 ht11 HC1 HG10 x0 x1 x2 x3 x4 x5 y0 y1 y2 y3 y4 y5 z0 z1 z2 z3 z4 z5
      obtain ⟨x0, x1, x2, x3, x4, x5⟩ := HU11.out.tl.tl.at0.c
      obtain ⟨y0, y1, y2, y3, y4, y5⟩ := HU11.out.tl.at0.c
      obtain ⟨z0, z1, z2, z3, z4, z5⟩ := HU11.out.at0.c
      go_wp2_with fail
      refine (HC2.out _ HG11.out.tl.tl.at0).mono ?_
      rintro e w12 ⟨a12, b12, rfl, hs12, hb12, ht12⟩
      replace hs12 : SV w12 w12.heap.size stt a12 b12 := hs12
      obtain ⟨⟨P12, c12, e11, _, _⟩, ⟨Q12, d12, e12, _, _⟩⟩ := id hs12
      subst e11 e12
      have HU12 := Lib.hid (HG11.out.up hb12)
      have HG12 := Lib.hid (HU12.out.put (by omega) (ne_two (Nat.ne_of_lt hy9) (Nat.ne_of_lt hxz)) hs12 ht12)
      clear hs12 hb12 ht12 HC2 HG11 HU11 x0 x1 x2 x3 x4 x5 y0 y1 y2 y3 y4 y5 z0 z1 z2 z3 z4 z5
      obtain ⟨x0, x1, x2, x3, x4, x5⟩ := HU12.out.tl.tl.at0.c
      obtain ⟨y0, y1, y2, y3, y4, y5⟩ := HU12.out.tl.at0.c
      obtain ⟨z0, z1, z2, z3, z4, z5⟩ := HU12.out.at0.c
      have HCS := Lib.hid (same_any HG12.out.tl.at0.sv HG12.out.at0.sv (by have := HSt.out.1; omega) (by have := HSt.out.2; omega))
      go_wp2_with fail
      refine HCS.out.mono ?_
      rintro e w13 ⟨rfl, hb13⟩
      have HG13 := Lib.hid (HG12.out.up hb13)
      clear hb13 HCS HG12 HU12 x0 x1 x2 x3 x4 x5 y0 y1 y2 y3 y4 y5 z0 z1 z2 z3 z4 z5
      obtain ⟨x0, x1, x2, x3, x4, x5⟩ := HG13.out.tl.tl.at0.c
      obtain ⟨z0, z1, z2, z3, z4, z5⟩ := HG13.out.at0.c
      by_cases he : er = 0
      · subst he
        have HGE := Lib.hid (Bag.put HG13.out.tl.tl hw2 (fun x hx => absurd hx List.not_mem_nil) HG13.out.at0.sv HG13.out.at0.typ)
        go_wp2_with fail
        go_roundw
        case rel => exact ⟨j + 1, stt, _, _, by omega, by go_num, HSt.out, HGE.out⟩
        case measure => simp [intOf]; omega
      · have q1 : (er == 0) = false := beq_eq_false_iff_ne.2 he
        clear he
        go_wp2_with fail
        go_roundw
        case rel => exact ⟨j + 1, st, _, _, by omega, by go_num, HSH.out, HG13.out.tl.tl⟩
        case measure => simp [intOf]; omega
    · clear hcc0 hcc1
      obtain ⟨x0, x1, x2, x3, x4, x5⟩ := HG10.out.tl.tl.at0.c
      obtain ⟨y0, y1, y2, y3, y4, y5⟩ := HG10.out.tl.at0.c
      obtain ⟨z0, z1, z2, z3, z4, z5⟩ := HG10.out.at0.c
      go_wp2_with fail
      refine (srcN_any W.heap.size W.heap.size 2 w10 HG10.out.s (by omega) (by omega)).mono ?_
      rintro e w10' ⟨dd, ⟨hdd0, hdd1⟩, rfl, hs10, ho10⟩
      have HG10' := Lib.hid (HG10.out.srcd hs10 ho10)
      clear hs10 ho10 HG10 x0 x1 x2 x3 x4 x5 y0 y1 y2 y3 y4 y5 z0 z1 z2 z3 z4 z5
      obtain ⟨x0, x1, x2, x3, x4, x5⟩ := HG10'.out.tl.tl.at0.c
      obtain ⟨y0, y1, y2, y3, y4, y5⟩ := HG10'.out.tl.at0.c
      obtain ⟨z0, z1, z2, z3, z4, z5⟩ := HG10'.out.at0.c
      obtain ⟨stt, er, hr⟩ : ∃ stt er, dirtyR st (k0 - 1) (dd == 0) = (stt, er) := ⟨_, _, rfl⟩
      have HSt := Lib.hid (show Sh stt from by have h := sh_dirty (k := k0 - 1) (d := dd == 0) HSH.out; rw [hr] at h; exact h)
      have HC1 := Lib.hid (fun w (h : At w w2.heap.size st (.slice A2 st.slots.length c2) (.slice D2 st.missed.length d2)) => hr ▸ setdirty_any (k := k0 - 1) (d := dd == 0) h.sv)
      have HC2 := Lib.hid (fun w (h : At w w2.heap.size st (.slice A2 st.slots.length c2) (.slice D2 st.missed.length d2)) => hr ▸ rsetdirty_any (k := k0 - 1) (d := dd == 0) h.sv)
      clear hr
      go_wp2_with fail
      refine (HC1.out _ HG10'.out.tl.tl.at0).mono ?_
      rintro e w11 ⟨a11, b11, rfl, hs11, hb11, ht11⟩
      replace hs11 : SV w11 w11.heap.size stt a11 b11 := hs11
      obtain ⟨⟨P11, c11, e11, _, _⟩, ⟨Q11, d11, e12, _, _⟩⟩ := id hs11
      subst e11 e12
      have HU11 := Lib.hid (HG10'.out.up hb11)
      have HG11 := Lib.hid ((HU11.out.swap.put hwy (ne_two (Nat.ne_of_gt hy9) (Nat.ne_of_lt hx9)) hs11 ht11).swap)
      clear hs11 hb11 ht11 HC1 HG10' x0 x1 x2 x3 x4 x5 y0 y1 y2 y3 y4 y5 z0 z1 z2 z3 z4 z5
      obtain ⟨x0, x1, x2, x3, x4, x5⟩ := HU11.out.tl.tl.at0.c
      obtain ⟨y0, y1, y2, y3, y4, y5⟩ := HU11.out.tl.at0.c
      obtain ⟨z0, z1, z2, z3, z4, z5⟩ := HU11.out.at0.c
      go_wp2_with fail
      refine (HC2.out _ HG11.out.tl.tl.at0).mono ?_
      rintro e w12 ⟨a12, b12, rfl, hs12, hb12, ht12⟩
      replace hs12 : SV w12 w12.heap.size stt a12 b12 := hs12
      obtain ⟨⟨P12, c12, e11, _, _⟩, ⟨Q12, d12, e12, _, _⟩⟩ := id hs12
      subst e11 e12
      have HU12 := Lib.hid (HG11.out.up hb12)
      have HG12 := Lib.hid (HU12.out.put (by omega) (ne_two (Nat.ne_of_lt hy9) (Nat.ne_of_lt hxz)) hs12 ht12)
      clear hs12 hb12 ht12 HC2 HG11 HU11 x0 x1 x2 x3 x4 x5 y0 y1 y2 y3 y4 y5 z0 z1 z2 z3 z4 z5
      obtain ⟨x0, x1, x2, x3, x4, x5⟩ := HU12.out.tl.tl.at0.c
      obtain ⟨y0, y1, y2, y3, y4, y5⟩ := HU12.out.tl.at0.c
      obtain ⟨z0, z1, z2, z3, z4, z5⟩ := HU12.out.at0.c
      have HCS := Lib.hid (same_any HG12.out.tl.at0.sv HG12.out.at0.sv (by have := HSt.out.1; omega) (by have := HSt.out.2; omega))
      go_wp2_with fail
      refine HCS.out.mono ?_
      rintro e w13 ⟨rfl, hb13⟩
      have HG13 := Lib.hid (HG12.out.up hb13)
      clear hb13 HCS HG12 HU12 x0 x1 x2 x3 x4 x5 y0 y1 y2 y3 y4 y5 z0 z1 z2 z3 z4 z5
      obtain ⟨x0, x1, x2, x3, x4, x5⟩ := HG13.out.tl.tl.at0.c
      obtain ⟨z0, z1, z2, z3, z4, z5⟩ := HG13.out.at0.c
      by_cases he : er = 0
      · subst he
        have HGE := Lib.hid (Bag.put HG13.out.tl.tl hw2 (fun x hx => absurd hx List.not_mem_nil) HG13.out.at0.sv HG13.out.at0.typ)
        go_wp2_with fail
        go_roundw
        case rel => exact ⟨j + 1, stt, _, _, by omega, by go_num, HSt.out, HGE.out⟩
        case measure => simp [intOf]; omega
      · have q1 : (er == 0) = false := beq_eq_false_iff_ne.2 he
        clear he
        go_wp2_with fail
        go_roundw
        case rel => exact ⟨j + 1, st, _, _, by omega, by go_num, HSH.out, HG13.out.tl.tl⟩
        case measure => simp [intOf]; omega
end Go.Proofs.Ytmmdckijokiomaa
