/- any: the walk (printed by genAny.py). -/
import Derived.Test.YtmmdckijokiomaaAnyP
namespace Go.Proofs.Ytmmdckijokiomaa
open Go.RowKit

set_option maxRecDepth 100000 in
set_option maxHeartbeats 8000000 in
theorem any_any {B sb : Nat} {w : World} (h : SrcOk B w sb) : Calls Try.prog 11 #[.pointer (some ⟨sb, 0, none⟩)] w (AnyRet B sb w) := by
  go_enter Try.func11, Try.ntmps11
  go_wp2_with fail
  have hb0 := (Below.refl w.heap.size w).al (.cells #[.slice none 0 0, .int .i64 0, .slice none 0 0] 25)
  have HB := Lib.hid (show B ≤ w.heap.size from h.lt.2.2)
  refine (srcN_any B sb 30 _ (h.below hb0) (by omega) (by omega)).mono ?_
  rintro e w2 ⟨x, ⟨hx0, hx1⟩, rfl, hs2, ho2⟩
  have HR2 := Lib.hid (show Blk w2 w.heap.size 25 #[.slice none 0 0, .int .i64 0, .slice none 0 0] from by
    obtain ⟨y, hy⟩ := src_blk (h.below hb0)
    exact (Blk.new w 25 #[.slice none 0 0, .int .i64 0, .slice none 0 0]).only ho2 ((Blk.new w 25 #[.slice none 0 0, .int .i64 0, .slice none 0 0]).ne_ hy (by decide)))
  have HO2 := Lib.hid ((Only.of_below (· = sb) hb0).trans ho2)
  have HS2 := Lib.hid hs2
  clear hs2 ho2 hb0 h
  go_wp2_with fail
  refine (state_any (steps := x) HS2.out hx0 (by omega)).mono ?_
  rintro e w3 ⟨st, a3, b3, rfl, hs3, ht3, hk3, hl3, hsr3, ho3⟩
  obtain ⟨⟨A3, c3, e3, _, _⟩, ⟨D3, d3, e4, _, _⟩⟩ := id hs3
  subst e3 e4
  have HX3 := Lib.hid (show XA B sb w (w3.alloc (.cells #[.slice A3 st.slots.length c3, .int .i64 st.clock, .slice D3 st.missed.length d3] 25)) w3.heap.size st (.slice A3 st.slots.length c3) (.slice D3 st.missed.length d3) from by
    obtain ⟨y, hy⟩ := src_blk HS2.out
    have hr3 := HR2.out.only ho3 (HR2.out.ne_ hy (by decide))
    have hb4 := (Below.refl w3.heap.size w3).al (.cells #[.slice A3 st.slots.length c3, .int .i64 st.clock, .slice D3 st.missed.length d3] 25)
    have hh := hd_iff.1 hk3.v.hd
    exact ⟨At.new_ hs3 ht3, hh.1, hl3, hh.2.2.2.2, hsr3.below hb4, (HO2.out.trans ho3).next hb4, hr3.below hb4 hr3.lt, hr3.lt⟩)
  have hgx : w3.heap.size < w3.heap.size + 1 := by omega
  have hlx : w.heap.size < w3.heap.size := HX3.out.lx
  clear hs3 ht3 hk3 hl3 hsr3 ho3 HR2 HO2 HS2
  go_wp2_with fail
  refine (srcPick_any B sb _ 8 8 _ _ (HX3.out.src.below ((Below.refl _ _).al _)) (fun _ => True) (by omega) (by omega) (pick8 (g := w3.heap.size + 1) (by simp)) (fun ad e => by injection e with e; rw [← e]; have := HX3.out.src.lt.2.1; simp at this; show w3.heap.size + 1 ≠ sb; omega) (fun _ _ => trivial)).mono ?_
  rintro e w4 ⟨odd, _, rfl, hs4, ho4⟩
  have HX4 := Lib.hid ((HX3.out.up ((Below.refl _ _).al _)).srcd hs4 ho4)
  clear hs4 ho4 HX3
  obtain ⟨x0, x1, x2, x3, x4, x5⟩ := HX4.out.x.c
  go_wp2_with fail
  refine (srcN_any B sb 9 _ HX4.out.src (by omega) (by omega)).mono ?_
  rintro e w5 ⟨sw, ⟨hsw0, hsw1⟩, rfl, hs5, ho5⟩
  have HX5 := Lib.hid (HX4.out.srcd hs5 ho5)
  clear hs5 ho5 HX4 x0 x1 x2 x3 x4 x5
  obtain ⟨x0, x1, x2, x3, x4, x5⟩ := HX5.out.x.c
  obtain ⟨i0, hi0, hz0, hz1, hz2⟩ := info_parts int_info
  obtain ⟨i4, hi4, hz40, hz41, hz42⟩ := info_parts slot_info
  have hl1 := HX5.out.l1
  have hl5 := HX5.out.l5
  have hm9 := HX5.out.m9
  have hbw : w3.heap.size < w5.heap.size := HX5.out.x.blk.lt
  have hw5 : w.heap.size < w5.heap.size := by omega
  have hsw : sw = 0 ∨ sw = 1 ∨ sw = 2 ∨ (3 ≤ sw ∧ sw < 9) := by omega
  rcases hsw with rfl | rfl | rfl | ⟨hs3, hs4⟩
  · clear hsw0 hsw1
    have HE := Lib.hid (HX5.out.putx HB.out (st2 := ⟨st.slots, odd, st.missed⟩) (a2 := .slice A3 st.slots.length c3) (b2 := .slice D3 st.missed.length d3) (k := 1) (u := .int .i64 odd) rfl hl1 hl5 (by show st.missed.length ≤ 9; omega) ⟨HX5.out.x.sv.form1, HX5.out.x.sv.form2⟩ HX5.out.x.typ)
    obtain ⟨r0, r1, r2, r3, r4, r5⟩ := HX5.out.xe.rc
    go_wp2_with fail
    exact bodyPost_ret (results_cell_row rfl _ _ w.heap.size 25 #[.slice A3 st.slots.length c3, .int .i64 odd, .slice D3 st.missed.length d3] (0, 0) _ rfl (put3_blk HE.out.res) Try.underlying25 rfl (by kernel_rfl)) rfl (HE.out.ret HB.out)
  · clear hsw0 hsw1
    have HRD := Lib.hid (show Reads w5 w5.heap.size 4 A3 st.slots.length (SC st.slots) from HX5.out.x.reads.1)
    go_wp2_with (at_builtin; refine wpList_append_any _ rfl (.const (.slice none 0 0)) (.tmp 22) 23 rfl w5.heap.size 51 i4 _ 4 24 Try.underlying23 hi4 hz40 hz41 hz42 rfl (by decide) (.slice none 0 0) 0 [] rfl (World.ownsRow_nil _ _ _ _) _ A3 st.slots.length c3 (SC st.slots) rfl HRD.out (SC_one _) (by unfold maxLen; omega) (by omega) (Nat.le_refl _) ?_; intro v6 w6 ho6 hg6 _; have HO6 := Lib.hid (own_zero ho6); have HG6 := Lib.hid hg6; have HX6 := Lib.hid (HX5.out.up (grown_bel hg6)); have hz6 := hg6.size; obtain ⟨g6, c6, e6, hl6, hl7⟩ := HO6.out.form (by omega); subst e6; clear ho6 hg6 x0 x1 x2 x3 x4 x5; obtain ⟨x0, x1, x2, x3, x4, x5⟩ := HX6.out.x.c)
    have HXO := Lib.hid (HX5.out.owned HB.out HG6.out HO6.out rfl)
    have HXD := Lib.hid HXO.out.drew
    go_cut [5] from 25 to 32 (fun v wx => ∃ (i : Nat) (t : Sl), v = .pointer (some ⟨g6, i * 4, none⟩) ∧ st.slots[i]? = some t ∧ XO B sb w wx w3.heap.size st w5.heap.size g6 c6 (.slice D3 st.missed.length d3))
    case first =>
      go_region_with (
        go_at_call 16
        refine (srcN_any B sb (st.slots.length : Int) _ HXD.out.xa.src (by omega) (by omega)).mono ?_
        rintro e w7 ⟨i, ⟨hi1, hi2⟩, rfl, hs7, ho7⟩
        obtain ⟨i, rfl⟩ := Int.eq_ofNat_of_zero_le hi1
        have HX7 := Lib.hid (HXD.out.srcd hs7 ho7)
        clear hs7 ho7 x0 x1 x2 x3 x4 x5
        obtain ⟨x0, x1, x2, x3, x4, x5⟩ := HX7.out.xa.x.c)
      all_goals
        go_wp2_with fail
        go_meet
        case rel => exact ⟨i, _, rfl, List.getElem?_eq_getElem (by omega), HX7.out⟩
    case rest =>
      obtain ⟨i, t, rfl, hti, hxo⟩ := hcut
      have HXC := Lib.hid hxo
      have HT := Lib.hid hti
      clear hti hxo HXO HXD HX5 HX6 HO6 HG6 x0 x1 x2 x3 x4 x5
      go_wp2_with fail
      refine (srcN_any B sb 4 wc HXC.out.xa.src (by omega) (by omega)).mono ?_
      rintro e w8 ⟨sv, ⟨hsv0, hsv1⟩, rfl, hs8, ho8⟩
      have HX8 := Lib.hid (HXC.out.srcd hs8 ho8)
      obtain ⟨hf, hz, hb8, hb9⟩ := HX8.out.four HT.out
      obtain ⟨va, di, bl', sp⟩ := t
      have c0 := hf.c0
      have c1 := hf.c1
      have c2 := hf.c2
      have c3' := hf.c3
      simp only at c0 c1 c2 c3'
      have f0 := hz (i * 4)
      have f1 := hz (i * 4 + 1)
      have f2 := hz (i * 4 + 2)
      have f3 := hz (i * 4 + 3)
      clear hs8 ho8 HXC hf hz
      obtain ⟨x0, x1, x2, x3, x4, x5⟩ := HX8.out.xa.x.c
      obtain ⟨r0, r1, r2, r3, r4, r5⟩ := HX8.out.xa.xe.rc
      have hg3 : w3.heap.size < g6 := by omega
      have hg0 : w.heap.size < g6 := by omega
      have hsv : sv = 0 ∨ sv = 1 ∨ sv = 2 ∨ sv = 3 := by omega
      rcases hsv with rfl | rfl | rfl | rfl
      · clear hsv0 hsv1
        have HE := Lib.hid (HX8.out.put HB.out HT.out (j := 2) (u := .int .i64 odd) (t' := ⟨va, di, odd, sp⟩) (by omega) rfl)
        go_wp2_with fail
        exact bodyPost_ret (results_cell_row rfl _ _ w.heap.size 25 #[.slice (some ⟨g6, 0, none⟩) st.slots.length c6, .int .i64 st.clock, .slice D3 st.missed.length d3] (0, 0) _ rfl (put3_blk HE.out.res) Try.underlying25 rfl (by kernel_rfl)) rfl (HE.out.ret HB.out)
      · clear hsv0 hsv1
        have HE := Lib.hid (HX8.out.put HB.out HT.out (j := 3) (u := .int .i64 odd) (t' := ⟨va, di, bl', odd⟩) (by omega) rfl)
        go_wp2_with fail
        exact bodyPost_ret (results_cell_row rfl _ _ w.heap.size 25 #[.slice (some ⟨g6, 0, none⟩) st.slots.length c6, .int .i64 st.clock, .slice D3 st.missed.length d3] (0, 0) _ rfl (put3_blk HE.out.res) Try.underlying25 rfl (by kernel_rfl)) rfl (HE.out.ret HB.out)
      · clear hsv0 hsv1
        have HE := Lib.hid (HX8.out.put HB.out HT.out (j := 0) (u := .bool (!va)) (t' := ⟨!va, di, bl', sp⟩) (by omega) rfl)
        go_wp2_with fail
        exact bodyPost_ret (results_cell_row rfl _ _ w.heap.size 25 #[.slice (some ⟨g6, 0, none⟩) st.slots.length c6, .int .i64 st.clock, .slice D3 st.missed.length d3] (0, 0) _ rfl (put3_blk HE.out.res) Try.underlying25 rfl (by kernel_rfl)) rfl (HE.out.ret HB.out)
      · clear hsv0 hsv1
        have HE := Lib.hid (HX8.out.put HB.out HT.out (j := 1) (u := .bool (!di)) (t' := ⟨va, !di, bl', sp⟩) (by omega) rfl)
        go_wp2_with fail
        exact bodyPost_ret (results_cell_row rfl _ _ w.heap.size 25 #[.slice (some ⟨g6, 0, none⟩) st.slots.length c6, .int .i64 st.clock, .slice D3 st.missed.length d3] (0, 0) _ rfl (put3_blk HE.out.res) Try.underlying25 rfl (by kernel_rfl)) rfl (HE.out.ret HB.out)
  · clear hsw0 hsw1
    have HRD := Lib.hid (show Reads w5 w5.heap.size 1 D3 st.missed.length (I st.missed) from HX5.out.x.reads.2)
    go_wp2_with (first
      | (at_builtin; refine wpList_append_any _ rfl (.const (.slice none 0 0)) (.tmp 68) 22 rfl w5.heap.size 3 i0 _ 1 8 Try.underlying22 hi0 hz0 hz1 hz2 rfl (by decide) (.slice none 0 0) 0 [] rfl (World.ownsRow_nil _ _ _ _) _ D3 st.missed.length d3 (I st.missed) rfl HRD.out (I_one _) (by unfold maxLen; omega) (by omega) (Nat.le_refl _) ?_; intro v6 w6 ho6 hg6 _; have HO6 := Lib.hid (own_zero ho6); have HG6 := Lib.hid (grown_bel hg6); have hz6 := hg6.size; clear ho6 hg6)
      | (at_builtin; refine wpList_append_own _ rfl (.tmp 69) (.tmp 71) 22 rfl w5.heap.size 3 i0 _ 1 8 Try.underlying22 hi0 hz0 hz1 hz2 rfl (by decide) _ _ _ rfl (HO6.out.alloc _) ⟨w6.heap.size, 0, none⟩ 1 1 [.int .i64 odd] rfl rfl (cell_one_new _ _ _) (by simp [Value.oneCell']) (by unfold maxLen; omega) (by omega) (by simp; omega) ?_; intro v7 w7 ho7 hg7 _; have HB7 := Lib.hid ((HG6.out.al (.cells #[.int .i64 odd] 3)).grown hg7 (by simp; omega) (fun g hg => (HO6.out.lt g hg).1)); have HX7 := Lib.hid (HX5.out.up HB7.out); have HO7 := Lib.hid (show w7.ownsRow w5.heap.size 3 1 v7 (st.missed.length + 1) (I (st.missed ++ [odd])) by rw [← I_append]; exact ho7); have hz7 := hg7.size; obtain ⟨g7, c7, e7, hl7, hl8⟩ := HO7.out.form (by omega); subst e7; clear ho7 hg7 x0 x1 x2 x3 x4 x5; obtain ⟨x0, x1, x2, x3, x4, x5⟩ := HX7.out.x.c; obtain ⟨r0, r1, r2, r3, r4, r5⟩ := HX7.out.xe.rc))
    have HE := Lib.hid (HX7.out.putx HB.out (st2 := ⟨st.slots, st.clock, st.missed ++ [odd]⟩) (a2 := .slice A3 st.slots.length c3) (b2 := .slice (some ⟨g7, 0, none⟩) (st.missed.length + 1) c7) (k := 2) (u := .slice (some ⟨g7, 0, none⟩) (st.missed.length + 1) c7) rfl hl1 hl5 (by show (st.missed ++ [odd]).length ≤ 9; simp; omega) ⟨HX7.out.x.sv.form1, own_form2' HO7.out (by simp)⟩ ⟨HX7.out.x.typ.a, fun _ hg => own_at_blk HO7.out hg⟩)
    exact bodyPost_ret (results_cell_row rfl _ _ w.heap.size 25 #[.slice A3 st.slots.length c3, .int .i64 st.clock, .slice (some ⟨g7, 0, none⟩) (st.missed.length + 1) c7] (0, 0) _ rfl (put3_blk HE.out.res) Try.underlying25 rfl (by kernel_rfl)) rfl (HE.out.ret HB.out)
  · clear hsw0 hsw1
    have q0 : (sw == 0) = false := beq_eq_false_iff_ne.2 (by omega)
    have q1 : (sw == 1) = false := beq_eq_false_iff_ne.2 (by omega)
    have q2 : (sw == 2) = false := beq_eq_false_iff_ne.2 (by omega)
    have HE := Lib.hid HX5.out.xe
    obtain ⟨r0, r1, r2, r3, r4, r5⟩ := HE.out.rc
    go_wp2_with fail
    exact bodyPost_ret (results_cell_row rfl _ _ w.heap.size 25 #[.slice A3 st.slots.length c3, .int .i64 st.clock, .slice D3 st.missed.length d3] (0, 0) _ rfl (put3_blk HE.out.res) Try.underlying25 rfl (by kernel_rfl)) rfl (HE.out.ret HB.out)
end Go.Proofs.Ytmmdckijokiomaa
