/- Place of the program (printed by genPlace.py). -/
import Derived.Test.YtmmdckijokiomaaPlaceP
namespace Go.Proofs.Ytmmdckijokiomaa
open Go.RowKit

set_option maxRecDepth 100000 in
set_option maxHeartbeats 8000000 in
theorem place_any {st : St} {a bb : Value} {k b : Int} {w : World} (h : SV w w.heap.size st a bb) :
    Calls Try.prog 28 #[.agg #[a, .int .i64 st.clock, bb], .int .i64 k, .int .i64 b] w (StRet (placeR st k b) w) := by
  have he0 := (entry3 w a (.int .i64 st.clock) bb (.int .i64 b)).1
  have HX := Lib.hid (entry3 w a (.int .i64 st.clock) bb (.int .i64 b)).2
  have hu := h.up he0.bel
  have HE := Lib.hid he0
  have HU := Lib.hid hu
  have HF0 := Lib.hid (show ∀ f, findI st.slots b = f → validB st = true → findB st b = f from fun f hf hv => by unfold findB; rw [if_pos hv]; exact hf)
  have HSL := Lib.hid (slot_any (k := k) hu)
  by_cases he : slotE st k = 0
  case neg =>
    have hpl : placeR st k b = (St.none_, slotE st k) := by
      rcases slotE_cases st k with ⟨hv, h2⟩ | ⟨hv, hi, h2⟩ | ⟨_, _, h2, _⟩
      · unfold placeR; rw [if_pos hv, h2]
      · unfold placeR; rw [if_neg (by rw [hv]; decide), if_pos (.inl hi), h2]
      · exact absurd h2 he
    rw [hpl]
    obtain ⟨er, her⟩ : ∃ er, slotE st k = er := ⟨_, rfl⟩
    rw [her] at he HSL ⊢
    have q0 : (er != 0) = true := bne_iff_ne.2 he
    have q1 : (er == 0) = false := beq_eq_false_iff_ne.2 he
    obtain ⟨slots, clock, missed⟩ := st
    obtain ⟨⟨A1, c1, e1, hs1, _⟩, ⟨A2, c2, e2, hr2, _⟩⟩ := h
    subst e1 e2
    clear he0 hu he her hs1 hr2 hpl
    go_enter Try.func28, Try.ntmps28
    go_wp2_with fail
    refine HSL.out.mono ?_
    rintro e w5 ⟨rfl, hb5⟩
    have HE5 := Lib.hid (HE.out.up hb5)
    have HU5 := Lib.hid (HU.out.up hb5)
    obtain ⟨x0, x1, x2, y0, y1, y2, z0, z1, z2⟩ := HE5.out.c
    have HX5 := Lib.hid (HX.out.below hb5 HX.out.lt)
    have xb : w5.cell? ⟨w.heap.size + 1, 0, none⟩ = some (.int .i64 b) := by rw [HX5.out.cell]; rfl
    clear hb5
    go_wp2_with fail
    exact bodyPost_ret (results_cell_tmp (q := 7) rfl _ _ (w.heap.size + 2) _ _ _ rfl (put3_blk HE5.out.b1) Try.underlying25 rfl (by kernel_rfl)) rfl (HE5.out.err er)

  rcases slotE_cases st k with ⟨hv, h2⟩ | ⟨hv, hi, h2⟩ | ⟨hv, hi, _, i, t, hki, hil, hti⟩
  · exact absurd (he.symm.trans h2) (by decide)
  · exact absurd (he.symm.trans h2) (by decide)
  rw [he] at HSL
  subst hki
  have hsm := valid_small hv
  have hlen := valid_len hv
  have HT := Lib.hid hti
  have HRV := Lib.hid (show placeR st (i : Int) b = (if keyB b = false then (St.none_, 1) else if t.valid = true ∨ 0 ≤ findI st.slots b then (St.none_, 16) else if st.clock = 1099511627776 then (St.none_, 4)
    else (⟨st.slots.set i ⟨true, false, b, st.clock + 1⟩, st.clock + 1, withoutL st.missed b⟩, 0)) by
    unfold placeR
    rw [if_neg (by rw [hv]; decide), hi, Int.toNat_natCast, hti]
    simp)
  obtain ⟨slots, clock, missed⟩ := st
  obtain ⟨⟨A1, c1, e1, hs1, _⟩, ⟨A2, c2, e2, hr2, _⟩⟩ := h
  subst e1 e2
  obtain ⟨va, di, bl, sp⟩ := t
  have HS1 := Lib.hid hs1
  have HR2 := Lib.hid hr2
  have HVV := Lib.hid hv
  simp only at hsm hil
  clear he0 hu he hv hi hs1 hr2 hti
  have i0 : (i : Int) < (slots.length : Int) := by omega
  have i1 : ¬ (i : Int) < 0 := by omega
  have i2 : ¬ (slots.length : Int) ≤ (i : Int) := by omega
  cases hkb : keyB b with
  | false =>
    rw [show placeR ⟨slots, clock, missed⟩ (i : Int) b = (St.none_, 1) by rw [HRV.out, if_pos hkb]]
    have HKB := Lib.hid hkb
    have hk : b < 0 ∨ (0 ≤ b ∧ 16777215 < b) := by
      unfold keyB at hkb
      simp at hkb
      omega
    clear hkb
    rcases hk with hk | ⟨hk0, hk⟩
    all_goals
      go_enter Try.func28, Try.ntmps28
      go_wp2_with fail
      refine HSL.out.mono ?_
      rintro e w5 ⟨rfl, hb5⟩
      have HE5 := Lib.hid (HE.out.up hb5)
      have HU5 := Lib.hid (HU.out.up hb5)
      obtain ⟨x0, x1, x2, y0, y1, y2, z0, z1, z2⟩ := HE5.out.c
      have HX5 := Lib.hid (HX.out.below hb5 HX.out.lt)
      have xb : w5.cell? ⟨w.heap.size + 1, 0, none⟩ = some (.int .i64 b) := by rw [HX5.out.cell]; rfl
      clear hb5
      go_wp2_with fail
      exact bodyPost_ret (results_cell_tmp (q := 7) rfl _ _ (w.heap.size + 2) _ _ _ rfl (put3_blk HE5.out.b1) Try.underlying25 rfl (by kernel_rfl)) rfl (HE5.out.err 1)

  | true =>
  have HKB := Lib.hid hkb
  have hk0 : ¬ b < 0 := by have := (wf_key hkb).2; omega
  have hk1 : ¬ 16777215 < b := by have := (wf_key hkb).2; omega
  have HRV1 := Lib.hid (show placeR ⟨slots, clock, missed⟩ (i : Int) b = (if va = true ∨ 0 ≤ findI slots b then (St.none_, 16) else if clock = 1099511627776 then (St.none_, 4)
    else (⟨slots.set i ⟨true, false, b, clock + 1⟩, clock + 1, withoutL missed b⟩, 0)) by rw [HRV.out, if_neg (by rw [hkb]; decide)])
  clear hkb
  cases va with
  | true =>
    rw [show placeR ⟨slots, clock, missed⟩ (i : Int) b = (St.none_, 16) by rw [HRV1.out, if_pos (.inl rfl)]]
    go_enter Try.func28, Try.ntmps28
    go_wp2_with fail
    refine HSL.out.mono ?_
    rintro e w5 ⟨rfl, hb5⟩
    have HE5 := Lib.hid (HE.out.up hb5)
    have HU5 := Lib.hid (HU.out.up hb5)
    obtain ⟨x0, x1, x2, y0, y1, y2, z0, z1, z2⟩ := HE5.out.c
    have HX5 := Lib.hid (HX.out.below hb5 HX.out.lt)
    have xb : w5.cell? ⟨w.heap.size + 1, 0, none⟩ = some (.int .i64 b) := by rw [HX5.out.cell]; rfl
    obtain ⟨g, t, rfl, hg, ht, hf⟩ := (HS1.out.below HE5.out.bel (Nat.le_refl _)).at_ hil
    obtain rfl := Option.some.inj (HT.out.symm.trans ht)
    obtain ⟨a0, a1, a2, a3⟩ := hf
    simp only at a0 a1
    clear hb5 ht hg
    go_wp2_with fail
    exact bodyPost_ret (results_cell_tmp (q := 7) rfl _ _ (w.heap.size + 2) _ _ _ rfl (put3_blk HE5.out.b1) Try.underlying25 rfl (by kernel_rfl)) rfl (HE5.out.err 16)

  | false =>
  obtain ⟨f, hf⟩ : ∃ f, findI slots b = f := ⟨_, rfl⟩
  have HF := Lib.hid hf
  by_cases hff : 0 ≤ f
  case pos =>
    rw [show placeR ⟨slots, clock, missed⟩ (i : Int) b = (St.none_, 16) by rw [HRV1.out, if_pos (.inr (by rw [hf]; exact hff))]]
    clear hf
    go_enter Try.func28, Try.ntmps28
    go_wp2_with fail
    refine HSL.out.mono ?_
    rintro e w5 ⟨rfl, hb5⟩
    have HE5 := Lib.hid (HE.out.up hb5)
    have HU5 := Lib.hid (HU.out.up hb5)
    obtain ⟨x0, x1, x2, y0, y1, y2, z0, z1, z2⟩ := HE5.out.c
    have HX5 := Lib.hid (HX.out.below hb5 HX.out.lt)
    have xb : w5.cell? ⟨w.heap.size + 1, 0, none⟩ = some (.int .i64 b) := by rw [HX5.out.cell]; rfl
    obtain ⟨g, t, rfl, hg, ht, hf⟩ := (HS1.out.below HE5.out.bel (Nat.le_refl _)).at_ hil
    obtain rfl := Option.some.inj (HT.out.symm.trans ht)
    obtain ⟨a0, a1, a2, a3⟩ := hf
    simp only at a0 a1
    clear hb5 ht hg
    go_wp2_with fail
    refine (pfind_any (b := b) HU5.out hlen HF.out).mono ?_
    rintro e w6 ⟨rfl, hb6⟩
    have HE6 := Lib.hid (HE5.out.up hb6)
    have HU6 := Lib.hid (HU5.out.up hb6)
    have HX6 := Lib.hid (HX5.out.below hb6 HX5.out.lt)
    clear xb
    have xb : w6.cell? ⟨w.heap.size + 1, 0, none⟩ = some (.int .i64 b) := by rw [HX6.out.cell]; rfl
    clear x0 x1 x2 y0 y1 y2 z0 z1 z2
    obtain ⟨x0, x1, x2, y0, y1, y2, z0, z1, z2⟩ := HE6.out.c
    clear hb6
    go_wp2_with fail
    exact bodyPost_ret (results_cell_tmp (q := 7) rfl _ _ (w.heap.size + 2) _ _ _ rfl (put3_blk HE6.out.b1) Try.underlying25 rfl (by kernel_rfl)) rfl (HE6.out.err 16)

  have hff2 : ¬ 0 ≤ f := hff
  have HRV2 := Lib.hid (show placeR ⟨slots, clock, missed⟩ (i : Int) b = (if clock = 1099511627776 then (St.none_, 4) else (⟨slots.set i ⟨true, false, b, clock + 1⟩, clock + 1, withoutL missed b⟩, 0)) by
    rw [HRV1.out, if_neg (by rintro (h | h); cases h; exact hff (by rw [← hf]; exact h))])
  clear hf hff
  by_cases hc : clock = 1099511627776
  · rw [show placeR ⟨slots, clock, missed⟩ (i : Int) b = (St.none_, 4) by rw [HRV2.out, if_pos hc]]
    subst hc
    go_enter Try.func28, Try.ntmps28
    go_wp2_with fail
    refine HSL.out.mono ?_
    rintro e w5 ⟨rfl, hb5⟩
    have HE5 := Lib.hid (HE.out.up hb5)
    have HU5 := Lib.hid (HU.out.up hb5)
    obtain ⟨x0, x1, x2, y0, y1, y2, z0, z1, z2⟩ := HE5.out.c
    have HX5 := Lib.hid (HX.out.below hb5 HX.out.lt)
    have xb : w5.cell? ⟨w.heap.size + 1, 0, none⟩ = some (.int .i64 b) := by rw [HX5.out.cell]; rfl
    obtain ⟨g, t, rfl, hg, ht, hf⟩ := (HS1.out.below HE5.out.bel (Nat.le_refl _)).at_ hil
    obtain rfl := Option.some.inj (HT.out.symm.trans ht)
    obtain ⟨a0, a1, a2, a3⟩ := hf
    simp only at a0 a1
    clear hb5 ht hg
    go_wp2_with fail
    refine (pfind_any (b := b) HU5.out hlen HF.out).mono ?_
    rintro e w6 ⟨rfl, hb6⟩
    have HE6 := Lib.hid (HE5.out.up hb6)
    have HU6 := Lib.hid (HU5.out.up hb6)
    have HX6 := Lib.hid (HX5.out.below hb6 HX5.out.lt)
    clear xb
    have xb : w6.cell? ⟨w.heap.size + 1, 0, none⟩ = some (.int .i64 b) := by rw [HX6.out.cell]; rfl
    clear x0 x1 x2 y0 y1 y2 z0 z1 z2
    obtain ⟨x0, x1, x2, y0, y1, y2, z0, z1, z2⟩ := HE6.out.c
    clear hb6
    go_wp2_with fail
    exact bodyPost_ret (results_cell_tmp (q := 7) rfl _ _ (w.heap.size + 2) _ _ _ rfl (put3_blk HE6.out.b1) Try.underlying25 rfl (by kernel_rfl)) rfl (HE6.out.err 4)

  have q2 : (clock == 1099511627776) = false := beq_eq_false_iff_ne.2 hc
  rw [show placeR ⟨slots, clock, missed⟩ (i : Int) b = (⟨slots.set i ⟨true, false, b, clock + 1⟩, clock + 1, withoutL missed b⟩, 0) by rw [HRV2.out, if_neg hc]]
  clear hc
  go_enter Try.func28, Try.ntmps28
  go_wp2_with fail
  refine HSL.out.mono ?_
  rintro e w5 ⟨rfl, hb5⟩
  have HE5 := Lib.hid (HE.out.up hb5)
  have HU5 := Lib.hid (HU.out.up hb5)
  obtain ⟨x0, x1, x2, y0, y1, y2, z0, z1, z2⟩ := HE5.out.c
  have HX5 := Lib.hid (HX.out.below hb5 HX.out.lt)
  have xb : w5.cell? ⟨w.heap.size + 1, 0, none⟩ = some (.int .i64 b) := by rw [HX5.out.cell]; rfl
  obtain ⟨g, t, rfl, hg, ht, hf⟩ := (HS1.out.below HE5.out.bel (Nat.le_refl _)).at_ hil
  obtain rfl := Option.some.inj (HT.out.symm.trans ht)
  obtain ⟨a0, a1, a2, a3⟩ := hf
  simp only at a0 a1
  clear hb5 ht hg
  go_wp2_with fail
  refine (pfind_any (b := b) HU5.out hlen HF.out).mono ?_
  rintro e w6 ⟨rfl, hb6⟩
  have HE6 := Lib.hid (HE5.out.up hb6)
  have HU6 := Lib.hid (HU5.out.up hb6)
  have HX6 := Lib.hid (HX5.out.below hb6 HX5.out.lt)
  clear xb
  have xb : w6.cell? ⟨w.heap.size + 1, 0, none⟩ = some (.int .i64 b) := by rw [HX6.out.cell]; rfl
  clear x0 x1 x2 y0 y1 y2 z0 z1 z2
  obtain ⟨x0, x1, x2, y0, y1, y2, z0, z1, z2⟩ := HE6.out.c
  clear hb6
  clear a0 a1 a2 a3
  go_wp2_with fail
  refine (own_any HU6.out hsm.1 hsm.2.1).mono ?_
  rintro e w7 ⟨va, vb, rfl, hso, hb7⟩
  obtain ⟨gs, cs, rfl, hgs, hgl, hf, hz⟩ := hso.slot HT.out
  obtain ⟨Ab, cb, eb, _⟩ := own_cap hso.m
  subst eb
  have c0 := hf.c0
  have c1' := hf.c1
  have c2' := hf.c2
  have c3 := hf.c3
  have f0 := hz (i * 4)
  have f1 := hz (i * 4 + 1)
  have f2 := hz (i * 4 + 2)
  have f3 := hz (i * 4 + 3)
  have HSO := Lib.hid (show SO ((((w7.setCell ⟨gs, i * 4, none⟩ (.bool true)).setCell ⟨gs, i * 4 + 1, none⟩ (.bool false)).setCell ⟨gs, i * 4 + 2, none⟩ (.int .i64 b)).setCell ⟨gs, i * 4 + 3, none⟩ (.int .i64 (clock + 1))) w6.heap.size ⟨slots.set i ⟨true, false, b, clock + 1⟩, clock + 1, missed⟩ (.slice (some ⟨gs, 0, none⟩) slots.length cs) (.slice Ab missed.length cb) from hso.setAll rfl HT.out (t' := ⟨true, false, b, clock + 1⟩) (clock + 1))
  have HBY := Lib.hid ((((hb7.setCell (p := ⟨gs, i * 4, none⟩) hgs (.bool true)).setCell (p := ⟨gs, i * 4 + 1, none⟩) hgs (.bool false)).setCell (p := ⟨gs, i * 4 + 2, none⟩) hgs (.int .i64 b)).setCell (p := ⟨gs, i * 4 + 3, none⟩) hgs (.int .i64 (clock + 1)))
  have HE7 := Lib.hid (HE6.out.up hb7)
  have HX7 := Lib.hid (HX6.out.below hb7 HX6.out.lt)
  have HZQ := Lib.hid (show ((((w7.setCell ⟨gs, i * 4, none⟩ (.bool true)).setCell ⟨gs, i * 4 + 1, none⟩ (.bool false)).setCell ⟨gs, i * 4 + 2, none⟩ (.int .i64 b)).setCell ⟨gs, i * 4 + 3, none⟩ (.int .i64 (clock + 1))).heap.size = w7.heap.size by simp [World.setCell])
  have hw5 := HE6.out.b1.lt
  have hw6 := hb7.size
  have HB70 := Lib.hid hb7.size
  clear x0 x1 x2 y0 y1 y2 z0 z1 z2
  obtain ⟨x0, x1, x2, y0, y1, y2, z0, z1, z2⟩ := HE7.out.c
  clear xb
  have xb : w7.cell? ⟨w.heap.size + 1, 0, none⟩ = some (.int .i64 b) := by rw [HX7.out.cell]; rfl
  have hgw : w.heap.size + 2 < gs := by omega
  have hw7 : w.heap.size + 2 < w7.heap.size := by omega
  have hgw1 : w.heap.size + 1 < gs := by omega
  have hw8 : w.heap.size + 1 < w7.heap.size := by omega
  simp only at c0 c1' c2' c3
  clear hso hb7 hf hz
  go_wp2_with fail
  generalize hq : ((((w7.setCell ⟨gs, i * 4, none⟩ (.bool true)).setCell ⟨gs, i * 4 + 1, none⟩ (.bool false)).setCell ⟨gs, i * 4 + 2, none⟩ (.int .i64 b)).setCell ⟨gs, i * 4 + 3, none⟩ (.int .i64 (clock + 1))) = wq at HSO HBY HZQ ⊢
  clear hq
  have HW := Lib.hid (HBY.out.al (.cells #[.slice (some ⟨gs, 0, none⟩) slots.length cs, .int .i64 (clock + 1), .slice Ab missed.length cb] 25))
  have HSOA := Lib.hid (HSO.out.below ((Below.refl _ _).al (.cells #[.slice (some ⟨gs, 0, none⟩) slots.length cs, .int .i64 (clock + 1), .slice Ab missed.length cb] 25)))
  have HT8 := Lib.hid (show Blk (wq.alloc (.cells #[.slice (some ⟨gs, 0, none⟩) slots.length cs, .int .i64 (clock + 1), .slice Ab missed.length cb] 25)) w7.heap.size 25 _ from HZQ.out ▸ Blk.new wq 25 #[.slice (some ⟨gs, 0, none⟩) slots.length cs, .int .i64 (clock + 1), .slice Ab missed.length cb])
  have HX8 := Lib.hid (HX6.out.below HW.out HX6.out.lt)
  refine (deleteF_all HSOA.out.m (by show missed.length ≤ _; omega) (show (wq.alloc (.cells #[.slice (some ⟨gs, 0, none⟩) slots.length cs, .int .i64 (clock + 1), .slice Ab missed.length cb] 25)).cell? ⟨w.heap.size + 1, 0, none⟩ = some (Value.int .i64 b) by rw [HX8.out.cell]; rfl) (fun e => by have := (HSOA.out.m.lt _ e).1; omega)).mono ?_
  rintro e w9 ⟨rfl, hod, hon⟩
  have HT9 := Lib.hid (HT8.out.only hon (own_blk_ne HSOA.out.m HT8.out (by decide)))
  have HS9 := Lib.hid (show ∀ u, SO (w9.setCell ⟨w7.heap.size, 2, none⟩ u) w6.heap.size ⟨slots.set i ⟨true, false, b, clock + 1⟩, clock + 1, withoutL missed b⟩ (.slice (some ⟨gs, 0, none⟩) slots.length cs) (.slice Ab (withoutL missed b).length cb) from fun u => by
    have hst : SO w9 w6.heap.size ⟨slots.set i ⟨true, false, b, clock + 1⟩, clock + 1, withoutL missed b⟩ (.slice (some ⟨gs, 0, none⟩) slots.length cs) (.slice Ab (withoutL missed b).length cb) := ⟨own_only HSOA.out.s hon (own_own_ne HSOA.out.s HSOA.out.m (by decide)), hod⟩
    exact hst.only HT9.out ((Only.refl (fun k => k = w7.heap.size) _).setCell (p := ⟨w7.heap.size, 2, none⟩) (.inl rfl) _))
  have HB9 := Lib.hid (HW.out.trans (hon.below HW.out.size (fun k hk => (HSOA.out.m.lt k hk).1)))
  have HBL := Lib.hid (show ∀ u, Below w6.heap.size w6 (w9.setCell ⟨w7.heap.size, 2, none⟩ u) from fun u => HB9.out.setCell (p := ⟨w7.heap.size, 2, none⟩) HB70.out u)
  have HE9 := Lib.hid (HE6.out.up HB9.out)
  clear hod hon xb c0 c1' c2' c3 f0 f1 f2 f3 x0 x1 x2 y0 y1 y2 z0 z1 z2
  obtain ⟨x0, x1, x2, y0, y1, y2, z0, z1, z2⟩ := HE9.out.c
  have t0 : w9.cell? ⟨w7.heap.size, 0, none⟩ = some (.slice (some ⟨gs, 0, none⟩) slots.length cs) := by rw [HT9.out.cell]; rfl
  have t1 : w9.cell? ⟨w7.heap.size, 1, none⟩ = some (.int .i64 (clock + 1)) := by rw [HT9.out.cell]; rfl
  have t2 : w9.cell? ⟨w7.heap.size, 2, none⟩ = some (.slice Ab missed.length cb) := by rw [HT9.out.cell]; rfl
  have tz := HT9.out.frozen 2
  go_wp2_with fail
  exact bodyPost_ret (results_cell_tmp (q := 7) rfl _ _ (w.heap.size + 2) _ _ _ rfl (put3_blk (HE9.out.b1.far (p := ⟨w7.heap.size, 2, none⟩) (Nat.ne_of_lt hw7) _)) Try.underlying25 rfl (by kernel_rfl)) rfl (mut_end (r := (⟨slots.set i ⟨true, false, b, clock + 1⟩, clock + 1, withoutL missed b⟩, 0)) HE6.out (HBL.out _) (HS9.out _))
end Go.Proofs.Ytmmdckijokiomaa
