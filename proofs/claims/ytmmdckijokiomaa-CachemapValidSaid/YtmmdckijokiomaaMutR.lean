/- Touch, Clear and SetDirty of the reference (printed by genMut.py). -/
import Derived.Test.YtmmdckijokiomaaSlotE
namespace Go.Proofs.Ytmmdckijokiomaa
open Go.RowKit

set_option maxRecDepth 100000 in
set_option maxHeartbeats 8000000 in
theorem rtouch_any {st : St} {a bb : Value} {k : Int} {w : World} (h : SV w w.heap.size st a bb) :
    Calls Try.prog 25 #[.agg #[a, .int .i64 st.clock, bb], .int .i64 k] w (StRet (touchR st k) w) := by
  have he0 := entry2 w a (.int .i64 st.clock) bb
  have hu := h.up he0.bel
  have HE := Lib.hid he0
  have HU := Lib.hid hu
  have HSL := Lib.hid (rvalid_any hu)
  rcases slotE_cases st k with ⟨hv, he⟩ | ⟨hv, hi, he⟩ | ⟨hv, hi, he, i, t, hki, hil, hti⟩
  · rw [show touchR st k = (St.none_, 2) by unfold touchR; rw [he]; rfl]
    rw [valid2 hv] at HSL
    obtain ⟨slots, clock, missed⟩ := st
    obtain ⟨⟨A1, c1, e1, hs1, _⟩, ⟨A2, c2, e2, hr2, _⟩⟩ := h
    subst e1 e2
    clear he0 hu he hv hs1 hr2
    go_enter Try.func25, Try.ntmps25
    go_wp2_with fail
    refine HSL.out.mono ?_
    rintro e w5 ⟨rfl, hb5⟩
    have HE5 := Lib.hid (HE.out.up hb5)
    have HU5 := Lib.hid (HU.out.up hb5)
    obtain ⟨x0, x1, x2, y0, y1, y2, z0, z1, z2⟩ := HE5.out.c
    clear hb5
    go_wp2_with fail
    exact bodyPost_ret (results_cell_tmp (q := 5) rfl _ _ (w.heap.size + 1) _ _ _ rfl (put3_blk HE5.out.b1) Try.underlying25 rfl (by kernel_rfl)) rfl (HE5.out.err 2)
  · rw [show touchR st k = (St.none_, 1) by unfold touchR; rw [he]; rfl]
    rw [valid0 hv] at HSL
    obtain ⟨slots, clock, missed⟩ := st
    obtain ⟨⟨A1, c1, e1, hs1, _⟩, ⟨A2, c2, e2, hr2, _⟩⟩ := h
    subst e1 e2
    have hk : k < 0 ∨ (0 ≤ k ∧ (slots.length : Int) ≤ k) := by
      unfold inB at hi
      simp at hi
      omega
    clear he0 hu he hv hi hs1 hr2
    rcases hk with hk | ⟨hk0, hk⟩
    all_goals
      go_enter Try.func25, Try.ntmps25
      go_wp2_with fail
      refine HSL.out.mono ?_
      rintro e w5 ⟨rfl, hb5⟩
      have HE5 := Lib.hid (HE.out.up hb5)
      have HU5 := Lib.hid (HU.out.up hb5)
      obtain ⟨x0, x1, x2, y0, y1, y2, z0, z1, z2⟩ := HE5.out.c
      clear hb5
      go_wp2_with fail
      exact bodyPost_ret (results_cell_tmp (q := 5) rfl _ _ (w.heap.size + 1) _ _ _ rfl (put3_blk HE5.out.b1) Try.underlying25 rfl (by kernel_rfl)) rfl (HE5.out.err 1)
  rw [valid0 hv] at HSL
  subst hki
  have hsm := valid_small hv
  have HT := Lib.hid hti
  have HRV := Lib.hid (show touchR st (i : Int) = (if t.valid = false then (St.none_, 12) else if st.clock = 1099511627776 then (St.none_, 4) else (⟨st.slots.set i { t with stamp := st.clock + 1 }, st.clock + 1, st.missed⟩, 0)) by
    unfold touchR
    rw [if_neg (by rw [he]; decide), Int.toNat_natCast, hti])
  obtain ⟨slots, clock, missed⟩ := st
  obtain ⟨⟨A1, c1, e1, hs1, _⟩, ⟨A2, c2, e2, hr2, _⟩⟩ := h
  subst e1 e2
  obtain ⟨va, di, bl, sp⟩ := t
  have HS1 := Lib.hid hs1
  simp only at hsm hil
  clear he0 hu he hv hi hs1 hr2 hti
  have i0 : (i : Int) < (slots.length : Int) := by omega
  have i1 : ¬ (i : Int) < 0 := by omega
  have i2 : ¬ (slots.length : Int) ≤ (i : Int) := by omega
  cases va with
  | false =>
    have HRV2 := Lib.hid (show touchR ⟨slots, clock, missed⟩ (i : Int) = (St.none_, 12) from HRV.out)
    rw [HRV2.out]
    go_enter Try.func25, Try.ntmps25
    go_wp2_with fail
    refine HSL.out.mono ?_
    rintro e w5 ⟨rfl, hb5⟩
    have HE5 := Lib.hid (HE.out.up hb5)
    have HU5 := Lib.hid (HU.out.up hb5)
    obtain ⟨x0, x1, x2, y0, y1, y2, z0, z1, z2⟩ := HE5.out.c
    obtain ⟨g, t, rfl, hg, ht, hf⟩ := (HS1.out.below HE5.out.bel (Nat.le_refl _)).at_ hil
    obtain rfl := Option.some.inj (HT.out.symm.trans ht)
    obtain ⟨a0, a1, a2, a3⟩ := hf
    simp only at a0 a1
    clear hb5 ht hg
    go_wp2_with fail
    exact bodyPost_ret (results_cell_tmp (q := 5) rfl _ _ (w.heap.size + 1) _ _ _ rfl (put3_blk HE5.out.b1) Try.underlying25 rfl (by kernel_rfl)) rfl (HE5.out.err 12)

  | true =>
    by_cases hc : clock = 1099511627776
    · have HRV2 := Lib.hid (show touchR ⟨slots, clock, missed⟩ (i : Int) = (St.none_, 4) by rw [HRV.out, if_neg (show ¬ (true : Bool) = false by decide), if_pos hc])
      rw [HRV2.out]
      subst hc
      go_enter Try.func25, Try.ntmps25
      go_wp2_with fail
      refine HSL.out.mono ?_
      rintro e w5 ⟨rfl, hb5⟩
      have HE5 := Lib.hid (HE.out.up hb5)
      have HU5 := Lib.hid (HU.out.up hb5)
      obtain ⟨x0, x1, x2, y0, y1, y2, z0, z1, z2⟩ := HE5.out.c
      obtain ⟨g, t, rfl, hg, ht, hf⟩ := (HS1.out.below HE5.out.bel (Nat.le_refl _)).at_ hil
      obtain rfl := Option.some.inj (HT.out.symm.trans ht)
      obtain ⟨a0, a1, a2, a3⟩ := hf
      simp only at a0 a1
      clear hb5 ht hg
      go_wp2_with fail
      exact bodyPost_ret (results_cell_tmp (q := 5) rfl _ _ (w.heap.size + 1) _ _ _ rfl (put3_blk HE5.out.b1) Try.underlying25 rfl (by kernel_rfl)) rfl (HE5.out.err 4)
    have q1 : (clock == 1099511627776) = false := beq_eq_false_iff_ne.2 hc
    have HRV2 := Lib.hid (show touchR ⟨slots, clock, missed⟩ (i : Int) = (⟨slots.set i ⟨true, di, bl, clock + 1⟩, clock + 1, missed⟩, 0) by rw [HRV.out, if_neg (show ¬ (true : Bool) = false by decide), if_neg hc])
    rw [HRV2.out]
    clear hc
    go_enter Try.func25, Try.ntmps25
    go_wp2_with fail
    refine HSL.out.mono ?_
    rintro e w5 ⟨rfl, hb5⟩
    have HE5 := Lib.hid (HE.out.up hb5)
    have HU5 := Lib.hid (HU.out.up hb5)
    obtain ⟨x0, x1, x2, y0, y1, y2, z0, z1, z2⟩ := HE5.out.c
    obtain ⟨g, t, rfl, hg, ht, hf⟩ := (HS1.out.below HE5.out.bel (Nat.le_refl _)).at_ hil
    obtain rfl := Option.some.inj (HT.out.symm.trans ht)
    obtain ⟨a0, a1, a2, a3⟩ := hf
    simp only at a0 a1
    clear hb5 ht hg
    go_wp2_with fail
    refine (copied_any HU5.out hsm.1 hsm.2.1).mono ?_
    rintro e w6 ⟨va, vb, rfl, hso, hb6⟩
    obtain ⟨gs, cs, rfl, hgs, hgl, hf, hz⟩ := hso.slot HT.out
    obtain ⟨Ab, cb, eb, _⟩ := own_cap hso.m
    subst eb
    have c0 := hf.c0
    have c1' := hf.c1
    have c2' := hf.c2
    have c3 := hf.c3
    have f0 := hz (i * 4)
    have f1 := hz (i * 4 + 1)
    have f2 := hz (i * 4 + 2)
    have f3 := hz (i * 4 + 3)
    have HSO := Lib.hid (hso.setSlot rfl HT.out (j := 3) (u := .int .i64 (clock + 1)) (t' := ⟨true, di, bl, clock + 1⟩) (by decide) rfl (clock + 1))
    have HBY := Lib.hid (hb6.setCell (p := ⟨gs, i * 4 + 3, none⟩) hgs (.int .i64 (clock + 1)))
    have HE6 := Lib.hid (HE5.out.up hb6)
    have hw5 := HE5.out.b1.lt
    have hw6 := hb6.size
    clear x0 x1 x2 y0 y1 y2 z0 z1 z2
    obtain ⟨x0, x1, x2, y0, y1, y2, z0, z1, z2⟩ := HE6.out.c
    have hgw : w.heap.size + 1 < gs := by omega
    have hw7 : w.heap.size + 1 < w6.heap.size := by omega
    simp only at c0 c1' c2' c3
    clear hso hb6 hf hz
    go_wp2_with fail
    refine bodyPost_ret (results_cell_tmp (q := 5) rfl _ _ (w.heap.size + 1) _ #[.slice (some ⟨gs, 0, none⟩) slots.length cs, .int .i64 (clock + 1), .slice Ab missed.length cb] _ rfl ((put3_blk (HE5.out.up HBY.out).b1).alloc _) Try.underlying25 rfl (by kernel_rfl)) rfl ?_
    exact mut_end2 (r := (⟨slots.set i ⟨true, di, bl, clock + 1⟩, clock + 1, missed⟩, 0)) HE5.out HBY.out HSO.out

set_option maxRecDepth 100000 in
set_option maxHeartbeats 8000000 in
theorem rclear_any {st : St} {a bb : Value} {k : Int} {w : World} (h : SV w w.heap.size st a bb) :
    Calls Try.prog 31 #[.agg #[a, .int .i64 st.clock, bb], .int .i64 k] w (StRet (clearR st k) w) := by
  have he0 := entry2 w a (.int .i64 st.clock) bb
  have hu := h.up he0.bel
  have HE := Lib.hid he0
  have HU := Lib.hid hu
  have HSL := Lib.hid (rvalid_any hu)
  rcases slotE_cases st k with ⟨hv, he⟩ | ⟨hv, hi, he⟩ | ⟨hv, hi, he, i, t, hki, hil, hti⟩
  · rw [show clearR st k = (St.none_, 2) by unfold clearR; rw [he]; rfl]
    rw [valid2 hv] at HSL
    obtain ⟨slots, clock, missed⟩ := st
    obtain ⟨⟨A1, c1, e1, hs1, _⟩, ⟨A2, c2, e2, hr2, _⟩⟩ := h
    subst e1 e2
    clear he0 hu he hv hs1 hr2
    go_enter Try.func31, Try.ntmps31
    go_wp2_with fail
    refine HSL.out.mono ?_
    rintro e w5 ⟨rfl, hb5⟩
    have HE5 := Lib.hid (HE.out.up hb5)
    have HU5 := Lib.hid (HU.out.up hb5)
    obtain ⟨x0, x1, x2, y0, y1, y2, z0, z1, z2⟩ := HE5.out.c
    clear hb5
    go_wp2_with fail
    exact bodyPost_ret (results_cell_tmp (q := 5) rfl _ _ (w.heap.size + 1) _ _ _ rfl (put3_blk HE5.out.b1) Try.underlying25 rfl (by kernel_rfl)) rfl (HE5.out.err 2)
  · rw [show clearR st k = (St.none_, 1) by unfold clearR; rw [he]; rfl]
    rw [valid0 hv] at HSL
    obtain ⟨slots, clock, missed⟩ := st
    obtain ⟨⟨A1, c1, e1, hs1, _⟩, ⟨A2, c2, e2, hr2, _⟩⟩ := h
    subst e1 e2
    have hk : k < 0 ∨ (0 ≤ k ∧ (slots.length : Int) ≤ k) := by
      unfold inB at hi
      simp at hi
      omega
    clear he0 hu he hv hi hs1 hr2
    rcases hk with hk | ⟨hk0, hk⟩
    all_goals
      go_enter Try.func31, Try.ntmps31
      go_wp2_with fail
      refine HSL.out.mono ?_
      rintro e w5 ⟨rfl, hb5⟩
      have HE5 := Lib.hid (HE.out.up hb5)
      have HU5 := Lib.hid (HU.out.up hb5)
      obtain ⟨x0, x1, x2, y0, y1, y2, z0, z1, z2⟩ := HE5.out.c
      clear hb5
      go_wp2_with fail
      exact bodyPost_ret (results_cell_tmp (q := 5) rfl _ _ (w.heap.size + 1) _ _ _ rfl (put3_blk HE5.out.b1) Try.underlying25 rfl (by kernel_rfl)) rfl (HE5.out.err 1)
  rw [valid0 hv] at HSL
  subst hki
  have hsm := valid_small hv
  have HT := Lib.hid hti
  have HRV := Lib.hid (show clearR st (i : Int) = (if t.dirty = true then (St.none_, 27) else (⟨st.slots.set i sz, st.clock, st.missed⟩, 0)) by
    unfold clearR
    rw [if_neg (by rw [he]; decide), Int.toNat_natCast, hti])
  obtain ⟨slots, clock, missed⟩ := st
  obtain ⟨⟨A1, c1, e1, hs1, _⟩, ⟨A2, c2, e2, hr2, _⟩⟩ := h
  subst e1 e2
  obtain ⟨va, di, bl, sp⟩ := t
  have HS1 := Lib.hid hs1
  simp only at hsm hil
  clear he0 hu he hv hi hs1 hr2 hti
  have i0 : (i : Int) < (slots.length : Int) := by omega
  have i1 : ¬ (i : Int) < 0 := by omega
  have i2 : ¬ (slots.length : Int) ≤ (i : Int) := by omega
  cases di with
  | true =>
    have HRV2 := Lib.hid (show clearR ⟨slots, clock, missed⟩ (i : Int) = (St.none_, 27) from HRV.out)
    rw [HRV2.out]
    go_enter Try.func31, Try.ntmps31
    go_wp2_with fail
    refine HSL.out.mono ?_
    rintro e w5 ⟨rfl, hb5⟩
    have HE5 := Lib.hid (HE.out.up hb5)
    have HU5 := Lib.hid (HU.out.up hb5)
    obtain ⟨x0, x1, x2, y0, y1, y2, z0, z1, z2⟩ := HE5.out.c
    obtain ⟨g, t, rfl, hg, ht, hf⟩ := (HS1.out.below HE5.out.bel (Nat.le_refl _)).at_ hil
    obtain rfl := Option.some.inj (HT.out.symm.trans ht)
    obtain ⟨a0, a1, a2, a3⟩ := hf
    simp only at a0 a1
    clear hb5 ht hg
    go_wp2_with fail
    exact bodyPost_ret (results_cell_tmp (q := 5) rfl _ _ (w.heap.size + 1) _ _ _ rfl (put3_blk HE5.out.b1) Try.underlying25 rfl (by kernel_rfl)) rfl (HE5.out.err 27)

  | false =>
    have HRV2 := Lib.hid (show clearR ⟨slots, clock, missed⟩ (i : Int) = (⟨slots.set i sz, clock, missed⟩, 0) by rw [HRV.out, if_neg (show ¬ (false : Bool) = true by decide)])
    rw [HRV2.out]
    skip
    go_enter Try.func31, Try.ntmps31
    go_wp2_with fail
    refine HSL.out.mono ?_
    rintro e w5 ⟨rfl, hb5⟩
    have HE5 := Lib.hid (HE.out.up hb5)
    have HU5 := Lib.hid (HU.out.up hb5)
    obtain ⟨x0, x1, x2, y0, y1, y2, z0, z1, z2⟩ := HE5.out.c
    obtain ⟨g, t, rfl, hg, ht, hf⟩ := (HS1.out.below HE5.out.bel (Nat.le_refl _)).at_ hil
    obtain rfl := Option.some.inj (HT.out.symm.trans ht)
    obtain ⟨a0, a1, a2, a3⟩ := hf
    simp only at a0 a1
    clear hb5 ht hg
    go_wp2_with fail
    refine (copied_any HU5.out hsm.1 hsm.2.1).mono ?_
    rintro e w6 ⟨va, vb, rfl, hso, hb6⟩
    obtain ⟨gs, cs, rfl, hgs, hgl, hf, hz⟩ := hso.slot HT.out
    obtain ⟨Ab, cb, eb, _⟩ := own_cap hso.m
    subst eb
    have c0 := hf.c0
    have c1' := hf.c1
    have c2' := hf.c2
    have c3 := hf.c3
    have f0 := hz (i * 4)
    have f1 := hz (i * 4 + 1)
    have f2 := hz (i * 4 + 2)
    have f3 := hz (i * 4 + 3)
    have HSO := Lib.hid (hso.setAll rfl HT.out (t' := sz) clock)
    have HBY := Lib.hid ((((hb6.setCell (p := ⟨gs, i * 4, none⟩) hgs (.bool sz.valid)).setCell (p := ⟨gs, i * 4 + 1, none⟩) hgs (.bool sz.dirty)).setCell (p := ⟨gs, i * 4 + 2, none⟩) hgs (.int .i64 sz.block)).setCell (p := ⟨gs, i * 4 + 3, none⟩) hgs (.int .i64 sz.stamp))
    have HE6 := Lib.hid (HE5.out.up hb6)
    have hw5 := HE5.out.b1.lt
    have hw6 := hb6.size
    clear x0 x1 x2 y0 y1 y2 z0 z1 z2
    obtain ⟨x0, x1, x2, y0, y1, y2, z0, z1, z2⟩ := HE6.out.c
    have hgw : w.heap.size + 1 < gs := by omega
    have hw7 : w.heap.size + 1 < w6.heap.size := by omega
    simp only at c0 c1' c2' c3
    clear hso hb6 hf hz
    go_wp2_with fail
    refine bodyPost_ret (results_cell_tmp (q := 5) rfl _ _ (w.heap.size + 1) _ #[.slice (some ⟨gs, 0, none⟩) slots.length cs, .int .i64 (clock), .slice Ab missed.length cb] _ rfl ((put3_blk (HE5.out.up HBY.out).b1).alloc _) Try.underlying25 rfl (by kernel_rfl)) rfl ?_
    exact mut_end2 (r := (⟨slots.set i sz, clock, missed⟩, 0)) HE5.out HBY.out HSO.out

set_option maxRecDepth 100000 in
set_option maxHeartbeats 8000000 in
theorem rsetdirty_any {st : St} {a bb : Value} {k : Int} {d : Bool} {w : World} (h : SV w w.heap.size st a bb) :
    Calls Try.prog 33 #[.agg #[a, .int .i64 st.clock, bb], .int .i64 k, .bool d] w (StRet (dirtyR st k d) w) := by
  have he0 := entry2 w a (.int .i64 st.clock) bb
  have hu := h.up he0.bel
  have HE := Lib.hid he0
  have HU := Lib.hid hu
  have HSL := Lib.hid (rvalid_any hu)
  rcases slotE_cases st k with ⟨hv, he⟩ | ⟨hv, hi, he⟩ | ⟨hv, hi, he, i, t, hki, hil, hti⟩
  · rw [show dirtyR st k d = (St.none_, 2) by unfold dirtyR; rw [he]; rfl]
    rw [valid2 hv] at HSL
    obtain ⟨slots, clock, missed⟩ := st
    obtain ⟨⟨A1, c1, e1, hs1, _⟩, ⟨A2, c2, e2, hr2, _⟩⟩ := h
    subst e1 e2
    clear he0 hu he hv hs1 hr2
    go_enter Try.func33, Try.ntmps33
    go_wp2_with fail
    refine HSL.out.mono ?_
    rintro e w5 ⟨rfl, hb5⟩
    have HE5 := Lib.hid (HE.out.up hb5)
    have HU5 := Lib.hid (HU.out.up hb5)
    obtain ⟨x0, x1, x2, y0, y1, y2, z0, z1, z2⟩ := HE5.out.c
    clear hb5
    go_wp2_with fail
    exact bodyPost_ret (results_cell_tmp (q := 7) rfl _ _ (w.heap.size + 1) _ _ _ rfl (put3_blk HE5.out.b1) Try.underlying25 rfl (by kernel_rfl)) rfl (HE5.out.err 2)
  · rw [show dirtyR st k d = (St.none_, 1) by unfold dirtyR; rw [he]; rfl]
    rw [valid0 hv] at HSL
    obtain ⟨slots, clock, missed⟩ := st
    obtain ⟨⟨A1, c1, e1, hs1, _⟩, ⟨A2, c2, e2, hr2, _⟩⟩ := h
    subst e1 e2
    have hk : k < 0 ∨ (0 ≤ k ∧ (slots.length : Int) ≤ k) := by
      unfold inB at hi
      simp at hi
      omega
    clear he0 hu he hv hi hs1 hr2
    rcases hk with hk | ⟨hk0, hk⟩
    all_goals
      go_enter Try.func33, Try.ntmps33
      go_wp2_with fail
      refine HSL.out.mono ?_
      rintro e w5 ⟨rfl, hb5⟩
      have HE5 := Lib.hid (HE.out.up hb5)
      have HU5 := Lib.hid (HU.out.up hb5)
      obtain ⟨x0, x1, x2, y0, y1, y2, z0, z1, z2⟩ := HE5.out.c
      clear hb5
      go_wp2_with fail
      exact bodyPost_ret (results_cell_tmp (q := 7) rfl _ _ (w.heap.size + 1) _ _ _ rfl (put3_blk HE5.out.b1) Try.underlying25 rfl (by kernel_rfl)) rfl (HE5.out.err 1)
  rw [valid0 hv] at HSL
  subst hki
  have hsm := valid_small hv
  have HT := Lib.hid hti
  have HRV := Lib.hid (show dirtyR st (i : Int) d = (if t.valid = false then (St.none_, 12) else (⟨st.slots.set i { t with dirty := d }, st.clock, st.missed⟩, 0)) by
    unfold dirtyR
    rw [if_neg (by rw [he]; decide), Int.toNat_natCast, hti])
  obtain ⟨slots, clock, missed⟩ := st
  obtain ⟨⟨A1, c1, e1, hs1, _⟩, ⟨A2, c2, e2, hr2, _⟩⟩ := h
  subst e1 e2
  obtain ⟨va, di, bl, sp⟩ := t
  have HS1 := Lib.hid hs1
  simp only at hsm hil
  clear he0 hu he hv hi hs1 hr2 hti
  have i0 : (i : Int) < (slots.length : Int) := by omega
  have i1 : ¬ (i : Int) < 0 := by omega
  have i2 : ¬ (slots.length : Int) ≤ (i : Int) := by omega
  cases va with
  | false =>
    have HRV2 := Lib.hid (show dirtyR ⟨slots, clock, missed⟩ (i : Int) d = (St.none_, 12) from HRV.out)
    rw [HRV2.out]
    go_enter Try.func33, Try.ntmps33
    go_wp2_with fail
    refine HSL.out.mono ?_
    rintro e w5 ⟨rfl, hb5⟩
    have HE5 := Lib.hid (HE.out.up hb5)
    have HU5 := Lib.hid (HU.out.up hb5)
    obtain ⟨x0, x1, x2, y0, y1, y2, z0, z1, z2⟩ := HE5.out.c
    obtain ⟨g, t, rfl, hg, ht, hf⟩ := (HS1.out.below HE5.out.bel (Nat.le_refl _)).at_ hil
    obtain rfl := Option.some.inj (HT.out.symm.trans ht)
    obtain ⟨a0, a1, a2, a3⟩ := hf
    simp only at a0 a1
    clear hb5 ht hg
    go_wp2_with fail
    exact bodyPost_ret (results_cell_tmp (q := 7) rfl _ _ (w.heap.size + 1) _ _ _ rfl (put3_blk HE5.out.b1) Try.underlying25 rfl (by kernel_rfl)) rfl (HE5.out.err 12)

  | true =>
    have HRV2 := Lib.hid (show dirtyR ⟨slots, clock, missed⟩ (i : Int) d = (⟨slots.set i ⟨true, d, bl, sp⟩, clock, missed⟩, 0) by rw [HRV.out, if_neg (show ¬ (true : Bool) = false by decide)])
    rw [HRV2.out]
    skip
    go_enter Try.func33, Try.ntmps33
    go_wp2_with fail
    refine HSL.out.mono ?_
    rintro e w5 ⟨rfl, hb5⟩
    have HE5 := Lib.hid (HE.out.up hb5)
    have HU5 := Lib.hid (HU.out.up hb5)
    obtain ⟨x0, x1, x2, y0, y1, y2, z0, z1, z2⟩ := HE5.out.c
    obtain ⟨g, t, rfl, hg, ht, hf⟩ := (HS1.out.below HE5.out.bel (Nat.le_refl _)).at_ hil
    obtain rfl := Option.some.inj (HT.out.symm.trans ht)
    obtain ⟨a0, a1, a2, a3⟩ := hf
    simp only at a0 a1
    clear hb5 ht hg
    go_wp2_with fail
    refine (copied_any HU5.out hsm.1 hsm.2.1).mono ?_
    rintro e w6 ⟨va, vb, rfl, hso, hb6⟩
    obtain ⟨gs, cs, rfl, hgs, hgl, hf, hz⟩ := hso.slot HT.out
    obtain ⟨Ab, cb, eb, _⟩ := own_cap hso.m
    subst eb
    have c0 := hf.c0
    have c1' := hf.c1
    have c2' := hf.c2
    have c3 := hf.c3
    have f0 := hz (i * 4)
    have f1 := hz (i * 4 + 1)
    have f2 := hz (i * 4 + 2)
    have f3 := hz (i * 4 + 3)
    have HSO := Lib.hid (hso.setSlot rfl HT.out (j := 1) (u := .bool d) (t' := ⟨true, d, bl, sp⟩) (by decide) rfl clock)
    have HBY := Lib.hid (hb6.setCell (p := ⟨gs, i * 4 + 1, none⟩) hgs (.bool d))
    have HE6 := Lib.hid (HE5.out.up hb6)
    have hw5 := HE5.out.b1.lt
    have hw6 := hb6.size
    clear x0 x1 x2 y0 y1 y2 z0 z1 z2
    obtain ⟨x0, x1, x2, y0, y1, y2, z0, z1, z2⟩ := HE6.out.c
    have hgw : w.heap.size + 1 < gs := by omega
    have hw7 : w.heap.size + 1 < w6.heap.size := by omega
    simp only at c0 c1' c2' c3
    clear hso hb6 hf hz
    go_wp2_with fail
    refine bodyPost_ret (results_cell_tmp (q := 7) rfl _ _ (w.heap.size + 1) _ #[.slice (some ⟨gs, 0, none⟩) slots.length cs, .int .i64 (clock), .slice Ab missed.length cb] _ rfl ((put3_blk (HE5.out.up HBY.out).b1).alloc _) Try.underlying25 rfl (by kernel_rfl)) rfl ?_
    exact mut_end2 (r := (⟨slots.set i ⟨true, d, bl, sp⟩, clock, missed⟩, 0)) HE5.out HBY.out HSO.out
end Go.Proofs.Ytmmdckijokiomaa
