/- Miss of both (printed by genMiss.py). -/
import Derived.Test.YtmmdckijokiomaaMissP
namespace Go.Proofs.Ytmmdckijokiomaa
open Go.RowKit

set_option maxRecDepth 100000 in
set_option maxHeartbeats 8000000 in
theorem miss_any {st : St} {a bb : Value} {b : Int} {w : World} (h : SV w w.heap.size st a bb) :
    Calls Try.prog 26 #[.agg #[a, .int .i64 st.clock, bb], .int .i64 b] w (MissRet (missR st b) w) := by
  obtain ⟨i0, hi0, hz0, hz1, hz2⟩ := info_parts int_info
  have he0 := entry2 w a (.int .i64 st.clock) bb
  have hu := h.up he0.bel
  have HE := Lib.hid he0
  have HU := Lib.hid hu
  have HV := Lib.hid (valid_any hu)
  have HF0 := Lib.hid (show ∀ f, findI st.slots b = f → validB st = true → findB st b = f from fun f hf hv => by unfold findB; rw [if_pos hv]; exact hf)
  cases hv : validB st with
  | false =>
    rw [valid2 hv] at HV
    rw [show missR st b = (St.none_, false, 2) by unfold missR; rw [if_pos hv]]
    obtain ⟨slots, clock, missed⟩ := st
    obtain ⟨⟨A1, c1, e1, hs1, _⟩, ⟨A2, c2, e2, hr2, _⟩⟩ := h
    subst e1 e2
    clear he0 hu hv hs1 hr2
    go_enter Try.func26, Try.ntmps26
    go_wp2_with fail
    refine HV.out.mono ?_
    rintro e w5 ⟨rfl, hb5⟩
    have HE5 := Lib.hid (HE.out.up hb5)
    have HU5 := Lib.hid (HU.out.up hb5)
    obtain ⟨x0, x1, x2, y0, y1, y2, z0, z1, z2⟩ := HE5.out.c
    clear hb5
    go_wp2_with fail
    exact bodyPost_ret (results_cell_tmp2 (q := 5) (r := 6) rfl _ _ (w.heap.size + 1) _ _ _ rfl (put3_blk HE5.out.b1) Try.underlying25 rfl (by kernel_rfl)) rfl (MissRet.err HE5.out 2)

  | true =>
  rw [valid0 hv] at HV
  have HRV := Lib.hid (show missR st b = (if keyB b = false then (St.none_, false, 1) else if 0 ≤ findI st.slots b then (St.none_, false, 16) else if b ∈ st.missed then (⟨st.slots, st.clock, withoutL st.missed b⟩, true, 0) else (⟨st.slots, st.clock, pushM st.missed b⟩, false, 0)) by
    unfold missR; rw [if_neg (by rw [hv]; decide)])
  have hsm := valid_small hv
  have hlen := valid_len hv
  have HND := Lib.hid (valid_missed hv)
  obtain ⟨slots, clock, missed⟩ := st
  obtain ⟨⟨A1, c1, e1, hs1, _⟩, ⟨A2, c2, e2, hr2, _⟩⟩ := h
  subst e1 e2
  simp only at hsm
  have HVV := Lib.hid hv
  have HR2 := Lib.hid hr2
  clear he0 hu hv hs1 hr2
  cases hkb : keyB b with
  | false =>
    rw [show missR ⟨slots, clock, missed⟩ b = (St.none_, false, 1) by rw [HRV.out, if_pos hkb]]
    have HKB := Lib.hid hkb
    have hk : b < 0 ∨ (0 ≤ b ∧ 16777215 < b) := by
      unfold keyB at hkb
      simp at hkb
      omega
    clear hkb
    rcases hk with hk | ⟨hk0, hk⟩
    all_goals
      go_enter Try.func26, Try.ntmps26
      go_wp2_with fail
      refine HV.out.mono ?_
      rintro e w5 ⟨rfl, hb5⟩
      have HE5 := Lib.hid (HE.out.up hb5)
      have HU5 := Lib.hid (HU.out.up hb5)
      obtain ⟨x0, x1, x2, y0, y1, y2, z0, z1, z2⟩ := HE5.out.c
      clear hb5
      go_wp2_with fail
      exact bodyPost_ret (results_cell_tmp2 (q := 5) (r := 6) rfl _ _ (w.heap.size + 1) _ _ _ rfl (put3_blk HE5.out.b1) Try.underlying25 rfl (by kernel_rfl)) rfl (MissRet.err HE5.out 1)

  | true =>
  have HKB := Lib.hid hkb
  have hk0 : ¬ b < 0 := by have := (wf_key hkb).2; omega
  have hk1 : ¬ 16777215 < b := by have := (wf_key hkb).2; omega
  obtain ⟨f, hf⟩ : ∃ f, findI slots b = f := ⟨_, rfl⟩
  have HF := Lib.hid hf
  by_cases hff : 0 ≤ f
  case pos =>
    rw [show missR ⟨slots, clock, missed⟩ b = (St.none_, false, 16) by rw [HRV.out, if_neg (by rw [hkb]; decide), if_pos (by rw [hf]; exact hff)]]
    clear hf hkb
    go_enter Try.func26, Try.ntmps26
    go_wp2_with fail
    refine HV.out.mono ?_
    rintro e w5 ⟨rfl, hb5⟩
    have HE5 := Lib.hid (HE.out.up hb5)
    have HU5 := Lib.hid (HU.out.up hb5)
    obtain ⟨x0, x1, x2, y0, y1, y2, z0, z1, z2⟩ := HE5.out.c
    clear hb5
    go_wp2_with fail
    refine (pfind_any (b := b) HU5.out hlen HF.out).mono ?_
    rintro e w6 ⟨rfl, hb6⟩
    have HE6 := Lib.hid (HE5.out.up hb6)
    have HU6 := Lib.hid (HU5.out.up hb6)
    clear x0 x1 x2 y0 y1 y2 z0 z1 z2
    obtain ⟨x0, x1, x2, y0, y1, y2, z0, z1, z2⟩ := HE6.out.c
    clear hb6
    go_wp2_with fail
    exact bodyPost_ret (results_cell_tmp2 (q := 5) (r := 6) rfl _ _ (w.heap.size + 1) _ _ _ rfl (put3_blk HE6.out.b1) Try.underlying25 rfl (by kernel_rfl)) rfl (MissRet.err HE6.out 16)

  have hff2 : ¬ 0 ≤ f := hff
  have HRV2 := Lib.hid (show missR ⟨slots, clock, missed⟩ b = (if b ∈ missed then (⟨slots, clock, withoutL missed b⟩, true, 0) else (⟨slots, clock, pushM missed b⟩, false, 0)) by
    rw [HRV.out, if_neg (by rw [hkb]; decide), if_neg (by rw [hf]; exact hff)])
  clear hf hkb hff
  by_cases hm : b ∈ missed
  · rw [show missR ⟨slots, clock, missed⟩ b = (⟨slots, clock, withoutL missed b⟩, true, 0) by rw [HRV2.out, if_pos hm]]
    obtain ⟨k, hk, hkn⟩ : ∃ k, missed[k]? = some b ∧ ∀ y ∈ missed.take k, (y == b) = false := by
      cases hf : missed.findIdx? (fun x => x == b) with
      | none => exact absurd (List.findIdx?_eq_none_iff.1 hf b hm) (by simp)
      | some k =>
        obtain ⟨hk, h1, h2⟩ := List.findIdx?_eq_some_iff_getElem.1 hf
        refine ⟨k, by rw [List.getElem?_eq_getElem hk]; simp at h1; rw [h1], fun y hy => ?_⟩
        obtain ⟨j, hj, rfl⟩ := List.mem_iff_getElem.1 hy
        rw [List.length_take] at hj
        have := h2 j (by omega)
        simpa using this
    have HIX := Lib.hid (idxI_at hk hkn)
    have hkl := (List.getElem?_eq_some_iff.1 hk).1
    have HER := Lib.hid (erase_without HND.out hk)
    have hw1 : IntKind.i64.wrap ((k : Int) + 1) = (k : Int) + 1 := IntWalk.i64_in _ (by omega)
    have hk9 : ¬ (k : Int) < 0 := by omega
    clear hk hkn hm
    go_enter Try.func26, Try.ntmps26
    go_wp2_with fail
    refine HV.out.mono ?_
    rintro e w5 ⟨rfl, hb5⟩
    have HE5 := Lib.hid (HE.out.up hb5)
    have HU5 := Lib.hid (HU.out.up hb5)
    obtain ⟨x0, x1, x2, y0, y1, y2, z0, z1, z2⟩ := HE5.out.c
    clear hb5
    go_wp2_with fail
    refine (pfind_any (b := b) HU5.out hlen HF.out).mono ?_
    rintro e w6 ⟨rfl, hb6⟩
    have HE6 := Lib.hid (HE5.out.up hb6)
    have HU6 := Lib.hid (HU5.out.up hb6)
    clear x0 x1 x2 y0 y1 y2 z0 z1 z2
    obtain ⟨x0, x1, x2, y0, y1, y2, z0, z1, z2⟩ := HE6.out.c
    clear hb6
    go_wp2_with fail
    refine (own_any HU6.out hsm.1 hsm.2.1).mono ?_
    rintro e w7 ⟨va, vb, rfl, hso, hb7⟩
    obtain ⟨As, cs, es, _⟩ := own_cap hso.s
    subst es
    obtain ⟨Am, cm, em, hcm⟩ := own_cap hso.m
    subst em
    have HSO := Lib.hid (hso.below ((Below.refl _ _).al (.cells #[.slice As slots.length cs, .int .i64 clock, .slice Am missed.length cm] 25)))
    have HB7 := Lib.hid (hb7.al (.cells #[.slice As slots.length cs, .int .i64 clock, .slice Am missed.length cm] 25))
    have HE7 := Lib.hid (HE6.out.up HB7.out)
    have hz70 : w.heap.size + 1 < w7.heap.size := Nat.lt_of_lt_of_le HE6.out.b1.lt hb7.size
    have HB70 := Lib.hid hb7.size
    have HT7 := Lib.hid (Blk.new w7 25 #[.slice As slots.length cs, .int .i64 clock, .slice Am missed.length cm])
    clear hso hb7 x0 x1 x2 y0 y1 y2 z0 z1 z2
    obtain ⟨x0, x1, x2, y0, y1, y2, z0, z1, z2⟩ := HE7.out.c
    obtain ⟨gm, cap, em, hgm, hgl⟩ := HSO.out.m.form (by show 0 < missed.length; omega)
    injection em with em _ em2
    subst em em2
    have HTG := Lib.hid (show ¬ w7.heap.size = gm from fun e => own_blk_ne HSO.out.m HT7.out (by decide) (by rw [e]; rfl))
    go_wp2_with fail
    refine (index_any (Reads.of_own HSO.out.m) (by show missed.length ≤ _; omega) HIX.out).mono ?_
    rintro e w8 ⟨rfl, rfl⟩
    go_wp2_with fail
    refine (delete_any HSO.out.m hkl (by show missed.length ≤ _; omega)).mono ?_
    rintro e w8 ⟨rfl, hod, hon⟩
    have HT8 := Lib.hid (HT7.out.only hon HTG.out)
    have HOD := Lib.hid hod
    have HOS := Lib.hid (own_only HSO.out.s hon (fun q hq e => own_blk_ne (t := 3) HSO.out.s (by subst e; exact (own_block2 HSO.out.m).choose_spec.1) (by decide) hq))
    have HB8 := Lib.hid (HB7.out.trans (hon.below HB7.out.size (fun q e => by subst e; exact (HSO.out.m.lt _ rfl).1)))
    have HE8 := Lib.hid (HE6.out.up HB8.out)
    have hz7 := HB7.out.size
    have hz8 := hon.size
    have hz6 := HE6.out.b1.lt
    clear hod hon x0 x1 x2 y0 y1 y2 z0 z1 z2
    obtain ⟨x0, x1, x2, y0, y1, y2, z0, z1, z2⟩ := HE8.out.c
    have t0 : w8.cell? ⟨w7.heap.size, 0, none⟩ = some (.slice As slots.length cs) := by rw [HT8.out.cell]; rfl
    have t1 : w8.cell? ⟨w7.heap.size, 1, none⟩ = some (.int .i64 clock) := by rw [HT8.out.cell]; rfl
    have t2 : w8.cell? ⟨w7.heap.size, 2, none⟩ = some (.slice (some ⟨gm, 0, none⟩) missed.length cm) := by rw [HT8.out.cell]; rfl
    have tz := HT8.out.frozen 2
    go_wp2_with fail
    have HSOF := Lib.hid (show SO (w8.setCell ⟨w7.heap.size, 2, none⟩ (.slice (some ⟨gm, 0, none⟩) (missed.length - 1) cm)) w6.heap.size ⟨slots, clock, withoutL missed b⟩ (.slice As slots.length cs) (.slice (some ⟨gm, 0, none⟩) (missed.length - 1) cm) by
      have hwl : (withoutL missed b).length = missed.length - 1 := by rw [← HER.out, List.length_eraseIdx, if_pos hkl]
      have hst : SO w8 w6.heap.size ⟨slots, clock, withoutL missed b⟩ (.slice As slots.length cs) (.slice (some ⟨gm, 0, none⟩) (missed.length - 1) cm) := ⟨HOS.out, by show w8.ownsRow _ _ 1 _ (withoutL missed b).length (I (withoutL missed b)); rw [hwl, ← HER.out]; exact HOD.out⟩
      exact hst.only HT8.out ((Only.refl (fun k => k = w7.heap.size) _).setCell (p := ⟨w7.heap.size, 2, none⟩) (.inl rfl) _))
    exact bodyPost_ret (results_cell_tmp2 (q := 5) (r := 6) rfl _ _ (w.heap.size + 1) _ _ _ rfl (put3_blk (HE8.out.b1.far (p := ⟨w7.heap.size, 2, none⟩) (Nat.ne_of_lt hz70) _)) Try.underlying25 rfl (by kernel_rfl)) rfl (MissRet.ok HE6.out (HB8.out.setCell (p := ⟨w7.heap.size, 2, none⟩) HB70.out _) HSOF.out)
  · rw [show missR ⟨slots, clock, missed⟩ b = (⟨slots, clock, pushM missed b⟩, false, 0) by rw [HRV2.out, if_neg hm]]
    go_enter Try.func26, Try.ntmps26
    go_wp2_with fail
    refine HV.out.mono ?_
    rintro e w5 ⟨rfl, hb5⟩
    have HE5 := Lib.hid (HE.out.up hb5)
    have HU5 := Lib.hid (HU.out.up hb5)
    obtain ⟨x0, x1, x2, y0, y1, y2, z0, z1, z2⟩ := HE5.out.c
    clear hb5
    go_wp2_with fail
    refine (pfind_any (b := b) HU5.out hlen HF.out).mono ?_
    rintro e w6 ⟨rfl, hb6⟩
    have HE6 := Lib.hid (HE5.out.up hb6)
    have HU6 := Lib.hid (HU5.out.up hb6)
    clear x0 x1 x2 y0 y1 y2 z0 z1 z2
    obtain ⟨x0, x1, x2, y0, y1, y2, z0, z1, z2⟩ := HE6.out.c
    clear hb6
    go_wp2_with fail
    refine (own_any HU6.out hsm.1 hsm.2.1).mono ?_
    rintro e w7 ⟨va, vb, rfl, hso, hb7⟩
    obtain ⟨As, cs, es, _⟩ := own_cap hso.s
    subst es
    obtain ⟨Am, cm, em, hcm⟩ := own_cap hso.m
    subst em
    have HSO := Lib.hid (hso.below ((Below.refl _ _).al (.cells #[.slice As slots.length cs, .int .i64 clock, .slice Am missed.length cm] 25)))
    have HB7 := Lib.hid (hb7.al (.cells #[.slice As slots.length cs, .int .i64 clock, .slice Am missed.length cm] 25))
    have HE7 := Lib.hid (HE6.out.up HB7.out)
    have hz70 : w.heap.size + 1 < w7.heap.size := Nat.lt_of_lt_of_le HE6.out.b1.lt hb7.size
    have HB70 := Lib.hid hb7.size
    have HT7 := Lib.hid (Blk.new w7 25 #[.slice As slots.length cs, .int .i64 clock, .slice Am missed.length cm])
    clear hso hb7 x0 x1 x2 y0 y1 y2 z0 z1 z2
    obtain ⟨x0, x1, x2, y0, y1, y2, z0, z1, z2⟩ := HE7.out.c
    have HIX := Lib.hid (idxI_none hm)
    clear hm
    have HOSM := Lib.hid (own_own_ne HSO.out.s HSO.out.m (by decide))
    have HOTM := Lib.hid (own_blk_ne HSO.out.m HT7.out (by decide))
    go_wp2_with fail
    refine (index_any (Reads.of_own HSO.out.m) (by show missed.length ≤ _; omega) HIX.out).mono ?_
    rintro e w8 ⟨rfl, rfl⟩
    by_cases h8 : missed.length = 8
    · have HPM := Lib.hid (show pushM missed b = (missed ++ [b]).drop 1 by unfold pushM; rw [if_pos (by rw [List.length_append]; show 8 < missed.length + 1; omega)])
      have j8 : 8 < missed.length + 1 := by omega
      clear h8
      go_wp2_with (
        at_builtin
        refine wpList_append_own _ rfl _ _ 22 rfl w6.heap.size 3 i0 _ 1 8 Try.underlying22 hi0 hz0 hz1 hz2 rfl (by decide) _ _ _ rfl (HSO.out.m.alloc _) ⟨w7.heap.size + 1, 0, none⟩ 1 1 [.int .i64 b] rfl rfl (World.news_of_block (heap2 _ _ _)) (by simp [Value.oneCell']) (by show missed.length + 1 ≤ _; unfold maxLen; omega) (by show (missed.length + 1) * 8 ≤ _; omega) (Nat.le_trans HB7.out.size ((Below.refl _ _).al _).size) ?_
        intro v' w8 hown' hgrow _
        obtain ⟨Aq, cq, eq_, hcq⟩ := own_cap hown'
        subst eq_
        go_loud (
          obtain ⟨gm, cap, em, hgm, hgl⟩ := hown'.form (by omega)
          obtain rfl : Aq = some ⟨gm, 0, none⟩ := by injection em with e1 _ e2
          clear em
          have HO8 := Lib.hid (show w8.ownsRow w6.heap.size 3 1 (.slice (some ⟨gm, 0, none⟩) (missed.length + 1) cq) (missed.length + 1) (I (missed ++ [b])) by rw [← I_append]; exact hown')
          have HT8 := Lib.hid ((HT7.out.alloc (.cells #[.int .i64 b] 3)).grown hgrow (fun e => HOTM.out e.symm))
          have HOS8 := Lib.hid (own_only HSO.out.s (((Only.refl (fun k => (Value.slice Am missed.length cm).ownBlock = some k) _).alloc (.cells #[.int .i64 b] 3)).grown hgrow (fun k hk => .inl hk)) HOSM.out)
          have HB8 := Lib.hid ((HB7.out.al (.cells #[.int .i64 b] 3)).grown hgrow (HB7.out.al (.cells #[.int .i64 b] 3)).size (fun g hg => (HSO.out.m.lt g hg).1))
          have HE8 := Lib.hid (HE6.out.up HB8.out)
          clear hown' hgrow x0 x1 x2 y0 y1 y2 z0 z1 z2
          obtain ⟨x0, x1, x2, y0, y1, y2, z0, z1, z2⟩ := HE8.out.c
          have t0 : w8.cell? ⟨w7.heap.size, 0, none⟩ = some (.slice As slots.length cs) := by rw [HT8.out.cell]; rfl
          have t1 : w8.cell? ⟨w7.heap.size, 1, none⟩ = some (.int .i64 clock) := by rw [HT8.out.cell]; rfl
          have t2 : w8.cell? ⟨w7.heap.size, 2, none⟩ = some (.slice Am missed.length cm) := by rw [HT8.out.cell]; rfl
          have tz := HT8.out.frozen 2
          have HBL := Lib.hid (show ∀ u, Below w6.heap.size w6 (w8.setCell ⟨w7.heap.size, 2, none⟩ u) from fun u => HB8.out.setCell (p := ⟨w7.heap.size, 2, none⟩) HB70.out u)
          have HS82 := Lib.hid (show ∀ u u2, SO ((w8.setCell ⟨w7.heap.size, 2, none⟩ u).setCell ⟨w7.heap.size, 2, none⟩ u2) w6.heap.size ⟨slots, clock, missed ++ [b]⟩ (.slice As slots.length cs) (.slice (some ⟨gm, 0, none⟩) (missed.length + 1) cq) from fun u u2 => by
            have hst : SO w8 w6.heap.size ⟨slots, clock, missed ++ [b]⟩ (.slice As slots.length cs) (.slice (some ⟨gm, 0, none⟩) (missed.length + 1) cq) := ⟨HOS8.out, by show w8.ownsRow _ _ 1 _ (missed ++ [b]).length (I (missed ++ [b])); rw [List.length_append]; exact HO8.out⟩
            exact hst.only HT8.out ((Only.refl (fun k => k = w7.heap.size) _).setCell (p := ⟨w7.heap.size, 2, none⟩) (.inl rfl) _ |>.setCell (p := ⟨w7.heap.size, 2, none⟩) (.inl rfl) _))))
      rw [HPM.out]
      exact bodyPost_ret (results_cell_tmp2 (q := 5) (r := 6) rfl _ _ (w.heap.size + 1) _ _ _ rfl (put3_blk ((HE8.out.b1.far (p := ⟨w7.heap.size, 2, none⟩) (Nat.ne_of_lt hz70) _).far (p := ⟨w7.heap.size, 2, none⟩) (Nat.ne_of_lt hz70) _)) Try.underlying25 rfl (by kernel_rfl)) rfl (MissRet.cut (st := ⟨slots, clock, missed ++ [b]⟩) HE6.out ((HBL.out _).setCell (p := ⟨w7.heap.size, 2, none⟩) HB70.out _) (HS82.out _ _) (by show _ = (missed ++ [b]).length; rw [List.length_append]; rfl) (by show 1 ≤ missed.length + 1; omega) (by show cq ≠ 1; have := hcq; omega))
    · have HPM := Lib.hid (show pushM missed b = missed ++ [b] by unfold pushM; rw [if_neg (by rw [List.length_append]; show ¬ 8 < missed.length + 1; omega)])
      have j8 : ¬ 8 < missed.length + 1 := by omega
      go_wp2_with (
        at_builtin
        refine wpList_append_own _ rfl _ _ 22 rfl w6.heap.size 3 i0 _ 1 8 Try.underlying22 hi0 hz0 hz1 hz2 rfl (by decide) _ _ _ rfl (HSO.out.m.alloc _) ⟨w7.heap.size + 1, 0, none⟩ 1 1 [.int .i64 b] rfl rfl (World.news_of_block (heap2 _ _ _)) (by simp [Value.oneCell']) (by show missed.length + 1 ≤ _; unfold maxLen; omega) (by show (missed.length + 1) * 8 ≤ _; omega) (Nat.le_trans HB7.out.size ((Below.refl _ _).al _).size) ?_
        intro v' w8 hown' hgrow _
        obtain ⟨Aq, cq, eq_, hcq⟩ := own_cap hown'
        subst eq_
        have HO8 := Lib.hid (show w8.ownsRow w6.heap.size 3 1 (.slice Aq (missed.length + 1) cq) (missed.length + 1) (I (missed ++ [b])) by rw [← I_append]; exact hown')
        have HT8 := Lib.hid ((HT7.out.alloc (.cells #[.int .i64 b] 3)).grown hgrow (fun e => HOTM.out e.symm))
        have HOS8 := Lib.hid (own_only HSO.out.s (((Only.refl (fun k => (Value.slice Am missed.length cm).ownBlock = some k) _).alloc (.cells #[.int .i64 b] 3)).grown hgrow (fun k hk => .inl hk)) HOSM.out)
        have HB8 := Lib.hid ((HB7.out.al (.cells #[.int .i64 b] 3)).grown hgrow (HB7.out.al (.cells #[.int .i64 b] 3)).size (fun g hg => (HSO.out.m.lt g hg).1))
        have HE8 := Lib.hid (HE6.out.up HB8.out)
        clear hown' hgrow x0 x1 x2 y0 y1 y2 z0 z1 z2
        obtain ⟨x0, x1, x2, y0, y1, y2, z0, z1, z2⟩ := HE8.out.c
        have t0 : w8.cell? ⟨w7.heap.size, 0, none⟩ = some (.slice As slots.length cs) := by rw [HT8.out.cell]; rfl
        have t1 : w8.cell? ⟨w7.heap.size, 1, none⟩ = some (.int .i64 clock) := by rw [HT8.out.cell]; rfl
        have t2 : w8.cell? ⟨w7.heap.size, 2, none⟩ = some (.slice Am missed.length cm) := by rw [HT8.out.cell]; rfl
        have tz := HT8.out.frozen 2
        have HBL := Lib.hid (show ∀ u, Below w6.heap.size w6 (w8.setCell ⟨w7.heap.size, 2, none⟩ u) from fun u => HB8.out.setCell (p := ⟨w7.heap.size, 2, none⟩) HB70.out u)
        have HS8 := Lib.hid (show ∀ u, SO (w8.setCell ⟨w7.heap.size, 2, none⟩ u) w6.heap.size ⟨slots, clock, missed ++ [b]⟩ (.slice As slots.length cs) (.slice Aq (missed.length + 1) cq) from fun u => by
          have hst : SO w8 w6.heap.size ⟨slots, clock, missed ++ [b]⟩ (.slice As slots.length cs) (.slice Aq (missed.length + 1) cq) := ⟨HOS8.out, by show w8.ownsRow _ _ 1 _ (missed ++ [b]).length (I (missed ++ [b])); rw [List.length_append]; exact HO8.out⟩
          exact hst.only HT8.out ((Only.refl (fun k => k = w7.heap.size) _).setCell (p := ⟨w7.heap.size, 2, none⟩) (.inl rfl) _)))
      rw [HPM.out]
      exact bodyPost_ret (results_cell_tmp2 (q := 5) (r := 6) rfl _ _ (w.heap.size + 1) _ _ _ rfl (put3_blk (HE8.out.b1.far (p := ⟨w7.heap.size, 2, none⟩) (Nat.ne_of_lt hz70) _)) Try.underlying25 rfl (by kernel_rfl)) rfl (MissRet.ok HE6.out (HBL.out _) (HS8.out _))
end Go.Proofs.Ytmmdckijokiomaa
