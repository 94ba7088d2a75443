/- Place of the reference (printed by genPlace.py). -/
import Derived.Test.YtmmdckijokiomaaPlaceP
namespace Go.Proofs.Ytmmdckijokiomaa
open Go.RowKit

set_option maxRecDepth 100000 in
set_option maxHeartbeats 8000000 in
theorem rplace_any {st : St} {a bb : Value} {k b : Int} {w : World} (h : SV w w.heap.size st a bb) :
    Calls Try.prog 29 #[.agg #[a, .int .i64 st.clock, bb], .int .i64 k, .int .i64 b] w (StRet (placeR st k b) w) := by
  have he0 := entry2 w a (.int .i64 st.clock) bb
  have hu := h.up he0.bel
  have HE := Lib.hid he0
  have HU := Lib.hid hu
  have HF0 := Lib.hid (show ∀ f, findI st.slots b = f → validB st = true → findB st b = f from fun f hf hv => by unfold findB; rw [if_pos hv]; exact hf)
  have HSL := Lib.hid (rvalid_any hu)
  rcases slotE_cases st k with ⟨hv, he⟩ | ⟨hv, hi, he⟩ | ⟨hv, hi, he, i, t, hki, hil, hti⟩
  · rw [show placeR st k b = (St.none_, 2) by unfold placeR; rw [if_pos hv]]
    rw [valid2 hv] at HSL
    obtain ⟨slots, clock, missed⟩ := st
    obtain ⟨⟨A1, c1, e1, hs1, _⟩, ⟨A2, c2, e2, hr2, _⟩⟩ := h
    subst e1 e2
    clear he0 hu he hv hs1 hr2
    go_enter Try.func29, Try.ntmps29
    go_wp2_with fail
    refine HSL.out.mono ?_
    rintro e w5 ⟨rfl, hb5⟩
    have HE5 := Lib.hid (HE.out.up hb5)
    have HU5 := Lib.hid (HU.out.up hb5)
    obtain ⟨x0, x1, x2, y0, y1, y2, z0, z1, z2⟩ := HE5.out.c
    clear hb5
    go_wp2_with fail
    exact bodyPost_ret (results_cell_tmp (q := 7) rfl _ _ (w.heap.size + 1) _ _ _ rfl (put3_blk HE5.out.b1) Try.underlying25 rfl (by kernel_rfl)) rfl (HE5.out.err 2)
  · rw [show placeR st k b = (St.none_, 1) by unfold placeR; rw [if_neg (by rw [hv]; decide), if_pos (.inl hi)]]
    rw [valid0 hv] at HSL
    obtain ⟨slots, clock, missed⟩ := st
    obtain ⟨⟨A1, c1, e1, hs1, _⟩, ⟨A2, c2, e2, hr2, _⟩⟩ := h
    subst e1 e2
    have hk : k < 0 ∨ (0 ≤ k ∧ (slots.length : Int) ≤ k) := by
      unfold inB at hi
      simp at hi
      omega
    clear he0 hu he hv hi hs1 hr2
    rcases hk with hk | ⟨hk0, hk⟩
    all_goals
      go_enter Try.func29, Try.ntmps29
      go_wp2_with fail
      refine HSL.out.mono ?_
      rintro e w5 ⟨rfl, hb5⟩
      have HE5 := Lib.hid (HE.out.up hb5)
      have HU5 := Lib.hid (HU.out.up hb5)
      obtain ⟨x0, x1, x2, y0, y1, y2, z0, z1, z2⟩ := HE5.out.c
      clear hb5
      go_wp2_with fail
      exact bodyPost_ret (results_cell_tmp (q := 7) rfl _ _ (w.heap.size + 1) _ _ _ rfl (put3_blk HE5.out.b1) Try.underlying25 rfl (by kernel_rfl)) rfl (HE5.out.err 1)
  rw [valid0 hv] at HSL
  subst hki
  have hsm := valid_small hv
  have hlen := valid_len hv
  have HT := Lib.hid hti
  have HRV := Lib.hid (show placeR st (i : Int) b = (if keyB b = false then (St.none_, 1) else if t.valid = true ∨ 0 ≤ findI st.slots b then (St.none_, 16) else if st.clock = 1099511627776 then (St.none_, 4)
    else (⟨st.slots.set i ⟨true, false, b, st.clock + 1⟩, st.clock + 1, withoutL st.missed b⟩, 0)) by
    unfold placeR
    rw [if_neg (by rw [hv]; decide), hi, Int.toNat_natCast, hti]
    simp)
  obtain ⟨slots, clock, missed⟩ := st
  obtain ⟨⟨A1, c1, e1, hs1, _⟩, ⟨A2, c2, e2, hr2, _⟩⟩ := h
  subst e1 e2
  obtain ⟨va, di, bl, sp⟩ := t
  have HS1 := Lib.hid hs1
  have HR2 := Lib.hid hr2
  have HVV := Lib.hid hv
  simp only at hsm hil
  clear he0 hu he hv hi hs1 hr2 hti
  have i0 : (i : Int) < (slots.length : Int) := by omega
  have i1 : ¬ (i : Int) < 0 := by omega
  have i2 : ¬ (slots.length : Int) ≤ (i : Int) := by omega
  cases hkb : keyB b with
  | false =>
    rw [show placeR ⟨slots, clock, missed⟩ (i : Int) b = (St.none_, 1) by rw [HRV.out, if_pos hkb]]
    have HKB := Lib.hid hkb
    have hk : b < 0 ∨ (0 ≤ b ∧ 16777215 < b) := by
      unfold keyB at hkb
      simp at hkb
      omega
    clear hkb
    clear hk
    go_enter Try.func29, Try.ntmps29
    go_wp2_with fail
    refine HSL.out.mono ?_
    rintro e w5 ⟨rfl, hb5⟩
    have HE5 := Lib.hid (HE.out.up hb5)
    have HU5 := Lib.hid (HU.out.up hb5)
    obtain ⟨x0, x1, x2, y0, y1, y2, z0, z1, z2⟩ := HE5.out.c
    clear hb5
    go_wp2_with fail
    refine (block_any HKB.out).mono ?_
    rintro e w9 ⟨rfl, rfl⟩
    go_wp2_with fail
    exact bodyPost_ret (results_cell_tmp (q := 7) rfl _ _ (w.heap.size + 1) _ _ _ rfl (put3_blk HE5.out.b1) Try.underlying25 rfl (by kernel_rfl)) rfl (HE5.out.err 1)

  | true =>
  have HKB := Lib.hid hkb
  have hk0 : ¬ b < 0 := by have := (wf_key hkb).2; omega
  have hk1 : ¬ 16777215 < b := by have := (wf_key hkb).2; omega
  have HRV1 := Lib.hid (show placeR ⟨slots, clock, missed⟩ (i : Int) b = (if va = true ∨ 0 ≤ findI slots b then (St.none_, 16) else if clock = 1099511627776 then (St.none_, 4)
    else (⟨slots.set i ⟨true, false, b, clock + 1⟩, clock + 1, withoutL missed b⟩, 0)) by rw [HRV.out, if_neg (by rw [hkb]; decide)])
  clear hkb
  cases va with
  | true =>
    rw [show placeR ⟨slots, clock, missed⟩ (i : Int) b = (St.none_, 16) by rw [HRV1.out, if_pos (.inl rfl)]]
    go_enter Try.func29, Try.ntmps29
    go_wp2_with fail
    refine HSL.out.mono ?_
    rintro e w5 ⟨rfl, hb5⟩
    have HE5 := Lib.hid (HE.out.up hb5)
    have HU5 := Lib.hid (HU.out.up hb5)
    obtain ⟨x0, x1, x2, y0, y1, y2, z0, z1, z2⟩ := HE5.out.c
    obtain ⟨g, t, rfl, hg, ht, hf⟩ := (HS1.out.below HE5.out.bel (Nat.le_refl _)).at_ hil
    obtain rfl := Option.some.inj (HT.out.symm.trans ht)
    obtain ⟨a0, a1, a2, a3⟩ := hf
    simp only at a0 a1
    clear hb5 ht hg
    go_wp2_with fail
    refine (block_any HKB.out).mono ?_
    rintro e w9 ⟨rfl, rfl⟩
    go_wp2_with fail
    exact bodyPost_ret (results_cell_tmp (q := 7) rfl _ _ (w.heap.size + 1) _ _ _ rfl (put3_blk HE5.out.b1) Try.underlying25 rfl (by kernel_rfl)) rfl (HE5.out.err 16)

  | false =>
  obtain ⟨f, hf⟩ : ∃ f, findI slots b = f := ⟨_, rfl⟩
  have HF := Lib.hid (HF0.out f hf HVV.out)
  by_cases hff : 0 ≤ f
  case pos =>
    rw [show placeR ⟨slots, clock, missed⟩ (i : Int) b = (St.none_, 16) by rw [HRV1.out, if_pos (.inr (by rw [hf]; exact hff))]]
    clear hf
    go_enter Try.func29, Try.ntmps29
    go_wp2_with fail
    refine HSL.out.mono ?_
    rintro e w5 ⟨rfl, hb5⟩
    have HE5 := Lib.hid (HE.out.up hb5)
    have HU5 := Lib.hid (HU.out.up hb5)
    obtain ⟨x0, x1, x2, y0, y1, y2, z0, z1, z2⟩ := HE5.out.c
    obtain ⟨g, t, rfl, hg, ht, hf⟩ := (HS1.out.below HE5.out.bel (Nat.le_refl _)).at_ hil
    obtain rfl := Option.some.inj (HT.out.symm.trans ht)
    obtain ⟨a0, a1, a2, a3⟩ := hf
    simp only at a0 a1
    clear hb5 ht hg
    go_wp2_with fail
    refine (block_any HKB.out).mono ?_
    rintro e w9 ⟨rfl, rfl⟩
    go_wp2_with fail
    refine (rfind_any (b := b) HU5.out HF.out).mono ?_
    rintro e w6 ⟨rfl, hb6⟩
    have HE6 := Lib.hid (HE5.out.up hb6)
    have HU6 := Lib.hid (HU5.out.up hb6)
    clear x0 x1 x2 y0 y1 y2 z0 z1 z2
    obtain ⟨x0, x1, x2, y0, y1, y2, z0, z1, z2⟩ := HE6.out.c
    clear hb6
    go_wp2_with fail
    exact bodyPost_ret (results_cell_tmp (q := 7) rfl _ _ (w.heap.size + 1) _ _ _ rfl (put3_blk HE6.out.b1) Try.underlying25 rfl (by kernel_rfl)) rfl (HE6.out.err 16)

  have hff2 : ¬ 0 ≤ f := hff
  have HRV2 := Lib.hid (show placeR ⟨slots, clock, missed⟩ (i : Int) b = (if clock = 1099511627776 then (St.none_, 4) else (⟨slots.set i ⟨true, false, b, clock + 1⟩, clock + 1, withoutL missed b⟩, 0)) by
    rw [HRV1.out, if_neg (by rintro (h | h); cases h; exact hff (by rw [← hf]; exact h))])
  clear hf hff
  by_cases hc : clock = 1099511627776
  · rw [show placeR ⟨slots, clock, missed⟩ (i : Int) b = (St.none_, 4) by rw [HRV2.out, if_pos hc]]
    subst hc
    go_enter Try.func29, Try.ntmps29
    go_wp2_with fail
    refine HSL.out.mono ?_
    rintro e w5 ⟨rfl, hb5⟩
    have HE5 := Lib.hid (HE.out.up hb5)
    have HU5 := Lib.hid (HU.out.up hb5)
    obtain ⟨x0, x1, x2, y0, y1, y2, z0, z1, z2⟩ := HE5.out.c
    obtain ⟨g, t, rfl, hg, ht, hf⟩ := (HS1.out.below HE5.out.bel (Nat.le_refl _)).at_ hil
    obtain rfl := Option.some.inj (HT.out.symm.trans ht)
    obtain ⟨a0, a1, a2, a3⟩ := hf
    simp only at a0 a1
    clear hb5 ht hg
    go_wp2_with fail
    refine (block_any HKB.out).mono ?_
    rintro e w9 ⟨rfl, rfl⟩
    go_wp2_with fail
    refine (rfind_any (b := b) HU5.out HF.out).mono ?_
    rintro e w6 ⟨rfl, hb6⟩
    have HE6 := Lib.hid (HE5.out.up hb6)
    have HU6 := Lib.hid (HU5.out.up hb6)
    clear x0 x1 x2 y0 y1 y2 z0 z1 z2
    obtain ⟨x0, x1, x2, y0, y1, y2, z0, z1, z2⟩ := HE6.out.c
    clear hb6
    go_wp2_with fail
    exact bodyPost_ret (results_cell_tmp (q := 7) rfl _ _ (w.heap.size + 1) _ _ _ rfl (put3_blk HE6.out.b1) Try.underlying25 rfl (by kernel_rfl)) rfl (HE6.out.err 4)

  have q2 : (clock == 1099511627776) = false := beq_eq_false_iff_ne.2 hc
  rw [show placeR ⟨slots, clock, missed⟩ (i : Int) b = (⟨slots.set i ⟨true, false, b, clock + 1⟩, clock + 1, withoutL missed b⟩, 0) by rw [HRV2.out, if_neg hc]]
  clear hc
  go_enter Try.func29, Try.ntmps29
  go_wp2_with fail
  refine HSL.out.mono ?_
  rintro e w5 ⟨rfl, hb5⟩
  have HE5 := Lib.hid (HE.out.up hb5)
  have HU5 := Lib.hid (HU.out.up hb5)
  obtain ⟨x0, x1, x2, y0, y1, y2, z0, z1, z2⟩ := HE5.out.c
  obtain ⟨g, t, rfl, hg, ht, hf⟩ := (HS1.out.below HE5.out.bel (Nat.le_refl _)).at_ hil
  obtain rfl := Option.some.inj (HT.out.symm.trans ht)
  obtain ⟨a0, a1, a2, a3⟩ := hf
  simp only at a0 a1
  clear hb5 ht hg
  go_wp2_with fail
  refine (block_any HKB.out).mono ?_
  rintro e w9 ⟨rfl, rfl⟩
  go_wp2_with fail
  refine (rfind_any (b := b) HU5.out HF.out).mono ?_
  rintro e w6 ⟨rfl, hb6⟩
  have HE6 := Lib.hid (HE5.out.up hb6)
  have HU6 := Lib.hid (HU5.out.up hb6)
  clear x0 x1 x2 y0 y1 y2 z0 z1 z2
  obtain ⟨x0, x1, x2, y0, y1, y2, z0, z1, z2⟩ := HE6.out.c
  clear hb6
  clear a0 a1 a2 a3
  go_wp2_with fail
  refine (copied_any HU6.out hsm.1 hsm.2.1).mono ?_
  rintro e w7 ⟨va, vb, rfl, hso, hb7⟩
  obtain ⟨gs, cs, rfl, hgs, hgl, hf, hz⟩ := hso.slot HT.out
  obtain ⟨Ab, cb, eb, _⟩ := own_cap hso.m
  subst eb
  have HSO := Lib.hid (hso.below ((Below.refl _ _).al (.cells #[.slice (some ⟨gs, 0, none⟩) slots.length cs, .int .i64 clock, .slice Ab missed.length cb] 25)))
  have HB7 := Lib.hid (hb7.al (.cells #[.slice (some ⟨gs, 0, none⟩) slots.length cs, .int .i64 clock, .slice Ab missed.length cb] 25))
  have HE7 := Lib.hid (HE6.out.up HB7.out)
  have hw5 := HE6.out.b1.lt
  have hw6 := hb7.size
  have HB70 := Lib.hid hb7.size
  have hw7 : w.heap.size + 1 < w7.heap.size := by omega
  have hgw : w.heap.size + 1 < gs := by omega
  have HT7 := Lib.hid (Blk.new w7 25 #[.slice (some ⟨gs, 0, none⟩) slots.length cs, .int .i64 clock, .slice Ab missed.length cb])
  have HRM := Lib.hid (show Reads (w7.alloc (.cells #[.slice (some ⟨gs, 0, none⟩) slots.length cs, .int .i64 clock, .slice Ab missed.length cb] 25)) (w7.alloc (.cells #[.slice (some ⟨gs, 0, none⟩) slots.length cs, .int .i64 clock, .slice Ab missed.length cb] 25)).heap.size 1 A2 missed.length (I missed) from (HR2.out.keep fun p hp => HE7.out.bel.cell hp).more HE7.out.bel.size)
  clear hso hb7 hf hz x0 x1 x2 y0 y1 y2 z0 z1 z2
  obtain ⟨x0, x1, x2, y0, y1, y2, z0, z1, z2⟩ := HE7.out.c
  go_wp2_with fail
  refine (without_any (b := b) HRM.out (by show missed.length ≤ _; omega)).mono ?_
  rintro e w8 ⟨vq, rfl, hown', hb8⟩
  obtain ⟨Aq, cq, eq_, hcq⟩ := own_cap hown'
  subst eq_
  have HT8 := Lib.hid (HT7.out.below hb8 HT7.out.lt)
  have HB8 := Lib.hid (HB7.out.trans ((Only.of_below (fun _ => False) hb8).below HB7.out.size (fun _ h => h.elim)))
  have HE8 := Lib.hid (HE6.out.up HB8.out)
  have HS8 := Lib.hid (show SO w8 w6.heap.size ⟨slots, clock, withoutL missed b⟩ (.slice (some ⟨gs, 0, none⟩) slots.length cs) (.slice Aq (withoutL missed b).length cq) from ⟨(HSO.out.below hb8).s, (own_low hown' HB7.out.size)⟩)
  have hsg : gs ≠ w7.heap.size := by omega
  obtain ⟨gs', cs', ee, _, _, hf, hz⟩ := HS8.out.slot HT.out
  obtain ⟨rfl, rfl⟩ : gs = gs' ∧ cs = cs' := by injection ee with e1 _ e2; injection e1 with e1; injection e1 with e1; exact ⟨e1, e2⟩
  have c0 := hf.c0
  have c1' := hf.c1
  have c2' := hf.c2
  have c3 := hf.c3
  have f0 := hz (i * 4)
  have f1 := hz (i * 4 + 1)
  have f2 := hz (i * 4 + 2)
  have f3 := hz (i * 4 + 3)
  simp only at c0 c1' c2' c3
  have HBL := Lib.hid (show ∀ u u2, Below w6.heap.size w6 ((((((w8.setCell ⟨w7.heap.size, 2, none⟩ u).setCell ⟨w7.heap.size, 1, none⟩ u2).setCell ⟨gs, i * 4, none⟩ (.bool true)).setCell ⟨gs, i * 4 + 1, none⟩ (.bool false)).setCell ⟨gs, i * 4 + 2, none⟩ (.int .i64 b)).setCell ⟨gs, i * 4 + 3, none⟩ (.int .i64 (clock + 1))) from fun u u2 =>
    (((((HB8.out.setCell (p := ⟨w7.heap.size, 2, none⟩) HB70.out u).setCell (p := ⟨w7.heap.size, 1, none⟩) HB70.out u2).setCell (p := ⟨gs, i * 4, none⟩) hgs (.bool true)).setCell (p := ⟨gs, i * 4 + 1, none⟩) hgs (.bool false)).setCell (p := ⟨gs, i * 4 + 2, none⟩) hgs (.int .i64 b)).setCell (p := ⟨gs, i * 4 + 3, none⟩) hgs (.int .i64 (clock + 1)))
  have HS9 := Lib.hid (show ∀ u u2, SO ((((((w8.setCell ⟨w7.heap.size, 2, none⟩ u).setCell ⟨w7.heap.size, 1, none⟩ u2).setCell ⟨gs, i * 4, none⟩ (.bool true)).setCell ⟨gs, i * 4 + 1, none⟩ (.bool false)).setCell ⟨gs, i * 4 + 2, none⟩ (.int .i64 b)).setCell ⟨gs, i * 4 + 3, none⟩ (.int .i64 (clock + 1))) w6.heap.size ⟨slots.set i ⟨true, false, b, clock + 1⟩, clock + 1, withoutL missed b⟩ (.slice (some ⟨gs, 0, none⟩) slots.length cs) (.slice Aq (withoutL missed b).length cq) from fun u u2 =>
    (HS8.out.only HT8.out (((Only.refl (fun k => k = w7.heap.size) _).setCell (p := ⟨w7.heap.size, 2, none⟩) (.inl rfl) u).setCell (p := ⟨w7.heap.size, 1, none⟩) (.inl rfl) u2)).setAll rfl HT.out (t' := ⟨true, false, b, clock + 1⟩) (clock + 1))
  clear hown' hb8 ee hf hz x0 x1 x2 y0 y1 y2 z0 z1 z2
  obtain ⟨x0, x1, x2, y0, y1, y2, z0, z1, z2⟩ := HE8.out.c
  have t0 : w8.cell? ⟨w7.heap.size, 0, none⟩ = some (.slice (some ⟨gs, 0, none⟩) slots.length cs) := by rw [HT8.out.cell]; rfl
  have t1 : w8.cell? ⟨w7.heap.size, 1, none⟩ = some (.int .i64 clock) := by rw [HT8.out.cell]; rfl
  have t2 : w8.cell? ⟨w7.heap.size, 2, none⟩ = some (.slice Ab missed.length cb) := by rw [HT8.out.cell]; rfl
  have tz := HT8.out.frozen 2
  have tz1 := HT8.out.frozen 1
  go_wp2_with fail
  refine bodyPost_ret (results_cell_tmp (q := 7) rfl _ _ (w.heap.size + 1) _ #[.slice (some ⟨gs, 0, none⟩) slots.length cs, .int .i64 (clock + 1), .slice Aq (withoutL missed b).length cq] _ rfl (put3_blk (HE6.out.up (HBL.out _ _)).b1) Try.underlying25 rfl (by kernel_rfl)) rfl ?_
  exact mut_end (r := (⟨slots.set i ⟨true, false, b, clock + 1⟩, clock + 1, withoutL missed b⟩, 0)) HE6.out (HBL.out _ _) (HS9.out _ _)
end Go.Proofs.Ytmmdckijokiomaa
