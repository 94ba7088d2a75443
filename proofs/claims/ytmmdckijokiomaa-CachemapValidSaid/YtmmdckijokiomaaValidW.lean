/- CachemapValid: the walk (printed by genValid.py). -/
import Derived.Test.YtmmdckijokiomaaBag
import Derived.Deep.RegionHeld3
namespace Go.Proofs.Ytmmdckijokiomaa
open Go.RowKit

set_option maxRecDepth 100000 in
set_option maxHeartbeats 8000000 in
theorem valid_walk (A : Option Addr) (m c : Nat) (l : List Int) (W : World) (hmc : m ≤ c) (hcm : c ≤ maxLen) (hr : Reads W W.heap.size 1 A m (I l)) :
    Calls Try.prog 5 #[.slice A m c] W (Ret (.bool true) W) := by
  have HN := Lib.hid (srcNew_any A m c l W hmc hcm hr)
  clear hr hmc hcm
  go_enter Try.func5, Try.ntmps5
  go_wp2_with fail
  refine HN.out.mono ?_
  rintro e w1 ⟨rfl, hs1, hb1⟩
  have HS1 := Lib.hid hs1
  have HB1 := Lib.hid hb1
  clear hs1 hb1 HN
  go_wp2_with fail
  refine (srcN_any W.heap.size W.heap.size 30 w1 HS1.out (by omega) (by omega)).mono ?_
  rintro e w2 ⟨x, ⟨hx0, hx1⟩, rfl, hs2, ho2⟩
  have HB2 := Lib.hid (HB1.out.trans (ho2.below HS1.out.lt.2.2 (fun k e => by rw [e]; exact Nat.le_refl _)))
  have HS2 := Lib.hid hs2
  clear hs2 ho2
  go_wp2_with fail
  refine (state_any (steps := x) HS2.out hx0 (by omega)).mono ?_
  rintro e w3 ⟨st, a3, b3, rfl, hs3, ht3, hk3, hl3, hsr3, ho3⟩
  obtain ⟨⟨A4, c4, e4, _, _⟩, ⟨A5, c5, e5, _, _⟩⟩ := id hs3
  subst e4 e5
  have HH := Lib.hid (show At (w3.alloc (.cells #[.slice A4 st.slots.length c4, .int .i64 st.clock, .slice A5 st.missed.length c5] 25)).drew w3.heap.size st (.slice A4 st.slots.length c4) (.slice A5 st.missed.length c5) ∧ Below W.heap.size W (w3.alloc (.cells #[.slice A4 st.slots.length c4, .int .i64 st.clock, .slice A5 st.missed.length c5] 25)).drew ∧ SrcOk W.heap.size (w3.alloc (.cells #[.slice A4 st.slots.length c4, .int .i64 st.clock, .slice A5 st.missed.length c5] 25)).drew W.heap.size from
    ⟨(At.new_ hs3 ht3).up (Below.refl _ _).drew, (((HB2.out.trans (ho3.below HS2.out.lt.2.2 (fun k e => by rw [e]; exact Nat.le_refl _))).al _).drew), (hsr3.below ((Below.refl _ _).al _)).below (Below.refl _ _).drew⟩)
  have HK := Lib.hid hk3
  have hl1 := (hd_iff.1 hk3.v.hd)
  have HHz := Lib.hid (show At (((w3.alloc (.cells #[.slice A4 st.slots.length c4, .int .i64 st.clock, .slice A5 st.missed.length c5] 25)).drew).alloc (.cells #[.slice none 0 0, .int .i64 0, .slice none 0 0] 25)) w3.heap.size st (.slice A4 st.slots.length c4) (.slice A5 st.missed.length c5) ∧ Below W.heap.size W (((w3.alloc (.cells #[.slice A4 st.slots.length c4, .int .i64 st.clock, .slice A5 st.missed.length c5] 25)).drew).alloc (.cells #[.slice none 0 0, .int .i64 0, .slice none 0 0] 25)) ∧ SrcOk W.heap.size (((w3.alloc (.cells #[.slice A4 st.slots.length c4, .int .i64 st.clock, .slice A5 st.missed.length c5] 25)).drew).alloc (.cells #[.slice none 0 0, .int .i64 0, .slice none 0 0] 25)) W.heap.size from ⟨HH.out.1.up ((Below.refl _ _).al _), HH.out.2.1.al _, HH.out.2.2.below ((Below.refl _ _).al _)⟩)
  have HHZ := Lib.hid (Blk.newAt (g := w3.heap.size + 1) (w := (w3.alloc (.cells #[.slice A4 st.slots.length c4, .int .i64 st.clock, .slice A5 st.missed.length c5] 25)).drew) 25 #[.slice none 0 0, .int .i64 0, .slice none 0 0] (by simp))
  have hgz0 : w3.heap.size < w3.heap.size + 1 := by omega
  have hw3 : W.heap.size ≤ w3.heap.size := Nat.le_trans HS2.out.lt.2.2 ho3.size
  clear hs3 ht3 hk3 hsr3 ho3
  obtain ⟨x0, x1, x2, x3, x4, x5⟩ := HH.out.1.c
  obtain ⟨i0, hi0, hz0, hz1, hz2⟩ := info_parts int_info
  obtain ⟨i4, hi4, hz40, hz41, hz42⟩ := info_parts slot_info
  go_wp2_with fail
  go_cut [5] from 25 to 33 (fun v wx => ∃ (g5 : Nat) (a5 b5 : Value), v = .pointer (some ⟨g5, 0, none⟩) ∧ w3.heap.size < g5 ∧ At wx g5 st a5 b5 ∧ At wx w3.heap.size st (.slice A4 st.slots.length c4) (.slice A5 st.missed.length c5) ∧ Below W.heap.size W wx ∧ SrcOk W.heap.size wx W.heap.size)
  case first =>
    obtain ⟨xz0, xz1, xz2, _, _, _⟩ := HHz.out.1.c
    go_region_held3 (fun w' => w'.cell? ⟨w3.heap.size, 0, none⟩ = some (.slice A4 st.slots.length c4) ∧ w'.cell? ⟨w3.heap.size, 1, none⟩ = some (.int .i64 st.clock) ∧ w'.cell? ⟨w3.heap.size, 2, none⟩ = some (.slice A5 st.missed.length c5))
      (first | exact ⟨x0, x1, x2⟩ | exact ⟨xz0, xz1, xz2⟩ | exact ⟨xwab0, xwab1, xwab2⟩ | exact ⟨xwazb0, xwazb1, xwazb2⟩ | exact ⟨xwzb0, xwzb1, xwzb2⟩ | exact ⟨xwa0, xwa1, xwa2⟩ | exact ⟨xwz0, xwz1, xwz2⟩ | exact ⟨xwaz0, xwaz1, xwaz2⟩ | exact ⟨xwabz0, xwabz1, xwabz2⟩ | exact ⟨(Hwazb.out.1.other HZwazb.out (Nat.ne_of_lt hgz) _ _ _).c.1, (Hwazb.out.1.other HZwazb.out (Nat.ne_of_lt hgz) _ _ _).c.2.1, (Hwazb.out.1.other HZwazb.out (Nat.ne_of_lt hgz) _ _ _).c.2.2.1⟩ | exact ⟨(Hwzb.out.1.other HZwzb.out (Nat.ne_of_lt hgz0) _ _ _).c.1, (Hwzb.out.1.other HZwzb.out (Nat.ne_of_lt hgz0) _ _ _).c.2.1, (Hwzb.out.1.other HZwzb.out (Nat.ne_of_lt hgz0) _ _ _).c.2.2.1⟩ | go_keep)
      (first
      | (
        refine step_append_any (o := ⟨some 27, _, _, _, _, _⟩) _ rfl (.const (.slice none 0 0)) (.tmp 26) 23 rfl W.heap.size 51 i4 _ 4 24 Try.underlying23 hi4 hz40 hz41 hz42 rfl (by decide) (.slice none 0 0) 0 [] rfl (World.ownsRow_nil _ _ _ _) _ A4 st.slots.length c4 (SC st.slots) (by simp [Act.eval, Act.put]) HH.out.1.reads.1 (SC_one _) (by unfold maxLen; omega) (by omega) HH.out.2.1.size ?_
        intro va wa ho hg _
        obtain ⟨Ava, dva, eva, _⟩ := own_cap (own_zero ho)
        subst eva
        have HVva := Lib.hid (own_zero ho)
        have Hwa := Lib.hid (show At wa w3.heap.size st (.slice A4 st.slots.length c4) (.slice A5 st.missed.length c5) ∧ Below W.heap.size W wa ∧ SrcOk W.heap.size wa W.heap.size from ⟨HH.out.1.up (grown_bel hg), HH.out.2.1.trans ((grown_bel hg).mono HH.out.2.1.size), HH.out.2.2.below (grown_bel hg)⟩)
        have Hwaz := Lib.hid (show At (wa.alloc (.cells #[.slice none 0 0, .int .i64 0, .slice none 0 0] 25)) w3.heap.size st (.slice A4 st.slots.length c4) (.slice A5 st.missed.length c5) ∧ Below W.heap.size W (wa.alloc (.cells #[.slice none 0 0, .int .i64 0, .slice none 0 0] 25)) ∧ SrcOk W.heap.size (wa.alloc (.cells #[.slice none 0 0, .int .i64 0, .slice none 0 0] 25)) W.heap.size from ⟨Hwa.out.1.up ((Below.refl _ _).al _), Hwa.out.2.1.al _, Hwa.out.2.2.below ((Below.refl _ _).al _)⟩)
        have HZwaz := Lib.hid (Blk.new wa 25 #[.slice none 0 0, .int .i64 0, .slice none 0 0])
        have hgz : w3.heap.size < wa.heap.size := Hwa.out.1.blk.lt
        obtain ⟨xwaz0, xwaz1, xwaz2, _, _, _⟩ := Hwaz.out.1.c
        have hswa : w3.heap.size < wa.heap.size := Hwa.out.1.blk.lt
        clear ho hg
        obtain ⟨xwa0, xwa1, xwa2, xwa3, xwa4, xwa5⟩ := Hwa.out.1.c)
      | (
        refine step_append_any (o := ⟨some 27, _, _, _, _, _⟩) _ rfl (.const (.slice none 0 0)) (.tmp 26) 23 rfl W.heap.size 51 i4 _ 4 24 Try.underlying23 hi4 hz40 hz41 hz42 rfl (by decide) (.slice none 0 0) 0 [] rfl (World.ownsRow_nil _ _ _ _) _ A4 st.slots.length c4 (SC st.slots) (by simp [Act.eval, Act.put]) HHz.out.1.reads.1 (SC_one _) (by unfold maxLen; omega) (by omega) HHz.out.2.1.size ?_
        intro va wz ho hg _
        obtain ⟨Ava, dva, eva, _⟩ := own_cap (own_zero ho)
        subst eva
        have HVva := Lib.hid (own_zero ho)
        have Hwz := Lib.hid (show At wz w3.heap.size st (.slice A4 st.slots.length c4) (.slice A5 st.missed.length c5) ∧ Below W.heap.size W wz ∧ SrcOk W.heap.size wz W.heap.size from ⟨HHz.out.1.up (grown_bel hg), HHz.out.2.1.trans ((grown_bel hg).mono HHz.out.2.1.size), HHz.out.2.2.below (grown_bel hg)⟩)
        have HZwz := Lib.hid (HHZ.out.below (grown_bel hg) HHZ.out.lt)
        obtain ⟨zwz0, zwz1, zwz2, zwz3, zwz4, zwz5⟩ := blk_c HZwz.out
        have hswz : w3.heap.size < wz.heap.size := Hwz.out.1.blk.lt
        clear ho hg
        obtain ⟨xwz0, xwz1, xwz2, xwz3, xwz4, xwz5⟩ := Hwz.out.1.c)
      | (
        refine step_append_any (o := ⟨some 32, _, _, _, _, _⟩) _ rfl (.const (.slice none 0 0)) (.tmp 31) 22 rfl W.heap.size 3 i0 _ 1 8 Try.underlying22 hi0 hz0 hz1 hz2 rfl (by decide) (.slice none 0 0) 0 [] rfl (World.ownsRow_nil _ _ _ _) _ A5 st.missed.length c5 (I st.missed) (by simp [Act.eval, Act.put]) Hwa.out.1.reads.2 (I_one _) (by unfold maxLen; omega) (by omega) Hwa.out.2.1.size ?_
        intro vb wab ho hg _
        obtain ⟨Avb, dvb, evb, _⟩ := own_cap (own_zero ho)
        subst evb
        have HVvb := Lib.hid (own_zero ho)
        have Hwab := Lib.hid (show At wab w3.heap.size st (.slice A4 st.slots.length c4) (.slice A5 st.missed.length c5) ∧ Below W.heap.size W wab ∧ SrcOk W.heap.size wab W.heap.size from ⟨Hwa.out.1.up (grown_bel hg), Hwa.out.2.1.trans ((grown_bel hg).mono Hwa.out.2.1.size), Hwa.out.2.2.below (grown_bel hg)⟩)
        have HVva := Lib.hid (own_grown HVva.out hg)
        obtain ⟨xwabz0, xwabz1, xwabz2, _, _, _⟩ := (Hwab.out.1.up ((Below.refl _ _).al (.cells #[.slice none 0 0, .int .i64 0, .slice none 0 0] 25))).c
        have hswab : w3.heap.size < wab.heap.size := Hwab.out.1.blk.lt
        clear ho hg
        obtain ⟨xwab0, xwab1, xwab2, xwab3, xwab4, xwab5⟩ := Hwab.out.1.c)
      | (
        refine step_append_any (o := ⟨some 32, _, _, _, _, _⟩) _ rfl (.const (.slice none 0 0)) (.tmp 31) 22 rfl W.heap.size 3 i0 _ 1 8 Try.underlying22 hi0 hz0 hz1 hz2 rfl (by decide) (.slice none 0 0) 0 [] rfl (World.ownsRow_nil _ _ _ _) _ A5 st.missed.length c5 (I st.missed) (by simp [Act.eval, Act.put]) Hwaz.out.1.reads.2 (I_one _) (by unfold maxLen; omega) (by omega) Hwaz.out.2.1.size ?_
        intro vb wazb ho hg _
        obtain ⟨Avb, dvb, evb, _⟩ := own_cap (own_zero ho)
        subst evb
        have HVvb := Lib.hid (own_zero ho)
        have Hwazb := Lib.hid (show At wazb w3.heap.size st (.slice A4 st.slots.length c4) (.slice A5 st.missed.length c5) ∧ Below W.heap.size W wazb ∧ SrcOk W.heap.size wazb W.heap.size from ⟨Hwaz.out.1.up (grown_bel hg), Hwaz.out.2.1.trans ((grown_bel hg).mono Hwaz.out.2.1.size), Hwaz.out.2.2.below (grown_bel hg)⟩)
        have HVva := Lib.hid (own_grown (HVva.out.alloc _) hg)
        have HZwazb := Lib.hid (HZwaz.out.below (grown_bel hg) HZwaz.out.lt)
        obtain ⟨zwazb0, zwazb1, zwazb2, zwazb3, zwazb4, zwazb5⟩ := blk_c HZwazb.out
        have hswazb : w3.heap.size < wazb.heap.size := Hwazb.out.1.blk.lt
        clear ho hg
        obtain ⟨xwazb0, xwazb1, xwazb2, xwazb3, xwazb4, xwazb5⟩ := Hwazb.out.1.c)
      | (
        refine step_append_any (o := ⟨some 32, _, _, _, _, _⟩) _ rfl (.const (.slice none 0 0)) (.tmp 31) 22 rfl W.heap.size 3 i0 _ 1 8 Try.underlying22 hi0 hz0 hz1 hz2 rfl (by decide) (.slice none 0 0) 0 [] rfl (World.ownsRow_nil _ _ _ _) _ A5 st.missed.length c5 (I st.missed) (by simp [Act.eval, Act.put]) Hwz.out.1.reads.2 (I_one _) (by unfold maxLen; omega) (by omega) Hwz.out.2.1.size ?_
        intro vb wzb ho hg _
        obtain ⟨Avb, dvb, evb, _⟩ := own_cap (own_zero ho)
        subst evb
        have HVvb := Lib.hid (own_zero ho)
        have Hwzb := Lib.hid (show At wzb w3.heap.size st (.slice A4 st.slots.length c4) (.slice A5 st.missed.length c5) ∧ Below W.heap.size W wzb ∧ SrcOk W.heap.size wzb W.heap.size from ⟨Hwz.out.1.up (grown_bel hg), Hwz.out.2.1.trans ((grown_bel hg).mono Hwz.out.2.1.size), Hwz.out.2.2.below (grown_bel hg)⟩)
        have HVva := Lib.hid (own_grown HVva.out hg)
        have HZwzb := Lib.hid (HZwz.out.below (grown_bel hg) HZwz.out.lt)
        obtain ⟨zwzb0, zwzb1, zwzb2, zwzb3, zwzb4, zwzb5⟩ := blk_c HZwzb.out
        have hswzb : w3.heap.size < wzb.heap.size := Hwzb.out.1.blk.lt
        clear ho hg
        obtain ⟨xwzb0, xwzb1, xwzb2, xwzb3, xwzb4, xwzb5⟩ := Hwzb.out.1.c))
    all_goals
      go_wp2_with fail
      go_meet
      case rel => first
        | exact ⟨_, _, _, rfl, Hwab.out.1.blk.lt, At.new_ (SO.sv (base := W.heap.size) ⟨HVva.out, HVvb.out⟩) (SO.typ (base := W.heap.size) (st := st) ⟨HVva.out, HVvb.out⟩), Hwab.out.1.up ((Below.refl _ _).al _), Hwab.out.2.1.al _, Hwab.out.2.2.below ((Below.refl _ _).al _)⟩
        | exact Fin HZwazb.out Hwazb.out HVva.out HVvb.out hgz hw3
        | exact Fin HZwzb.out Hwzb.out HVva.out HVvb.out hgz0 hw3
  case rest =>
    obtain ⟨g5, a5, b5, rfl, hg5, hat5, hat, hbel, hsrc⟩ := hcut
    obtain ⟨P5, n5, d5, Q5, m5, k5, rfl, rfl⟩ := hat5.sv.form_
    have HG4 := Lib.hid (Bag.cons hat5 (Bag.one hat hbel hsrc))
    clear hat5 hat hbel hsrc HH HHz HHZ
    clear x0 x1 x2 x3 x4 x5
    obtain ⟨x0, x1, x2, x3, x4, x5⟩ := HG4.out.tl.at0.c
    go_wp2_with fail
    refine (srcN_any W.heap.size W.heap.size (st.slots.length : Int) _ HG4.out.s (by omega) (by omega)).mono ?_
    rintro e w5 ⟨kk, ⟨hkk0, hkk1⟩, rfl, hs5, ho5⟩
    have HG5 := Lib.hid (HG4.out.srcd hs5 ho5)
    clear hs5 ho5 HG4 x0 x1 x2 x3 x4 x5
    obtain ⟨x0, x1, x2, x3, x4, x5⟩ := HG5.out.tl.at0.c
    go_wp2_with fail
    refine (srcN_any W.heap.size W.heap.size 14 _ HG5.out.s (by omega) (by omega)).mono ?_
    rintro e w6 ⟨bb, ⟨hbb0, hbb1⟩, rfl, hs6, ho6⟩
    have HG6 := Lib.hid (HG5.out.srcd hs6 ho6)
    clear hs6 ho6 HG5 x0 x1 x2 x3 x4 x5
    obtain ⟨x0, x1, x2, x3, x4, x5⟩ := HG6.out.tl.at0.c
    have hb6 : g5 < w6.heap.size := HG6.out.at0.blk.lt
    have hx6 : w3.heap.size < w6.heap.size := HG6.out.tl.at0.blk.lt
    obtain ⟨st7, er7, hr⟩ : ∃ st7 er7, touchR st kk = (st7, er7) := ⟨_, _, rfl⟩
    have HK7 := Lib.hid (show er7 = 0 → VP st7 from fun h0 => by
      have hkk := touch_keep HK.out (k := kk) (by rw [hr]; exact h0)
      rw [hr] at hkk
      exact hkk.1.v)
    have HC := Lib.hid (hr ▸ touch_any (k := kk) HG6.out.tl.at0.sv)
    clear hr
    go_wp2_with fail
    refine HC.out.mono ?_
    rintro e w7 ⟨a7, b7, rfl, hs7, hb7, ht7⟩
    obtain ⟨P7, n7, c7, Q7, m7, d7, rfl, rfl⟩ := hs7.form_
    have HU7 := Lib.hid (HG6.out.up hb7)
    have HG7 := Lib.hid (HU7.out.add hs7 ht7)
    have hx7 : w3.heap.size < w7.heap.size := HU7.out.tl.at0.blk.lt
    clear hs7 hb7 ht7 HC HG6 x0 x1 x2 x3 x4 x5
    obtain ⟨x0, x1, x2, x3, x4, x5⟩ := HU7.out.tl.at0.c
    obtain ⟨st8, q8, er8, hr⟩ : ∃ st8 q8 er8, missR st bb = (st8, q8, er8) := ⟨_, _, _, rfl⟩
    have HK8 := Lib.hid (show er8 = 0 → VP st8 from fun h0 => by
      have hkk := miss_keep HK.out (b := bb) hbb1 (by rw [hr]; exact h0)
      rw [hr] at hkk
      exact hkk.1.v)
    have HC := Lib.hid (hr ▸ miss_any (b := bb) HG7.out.tl.tl.at0.sv)
    clear hr
    go_wp2_with fail
    refine HC.out.mono ?_
    rintro e w8 ⟨a8, b8, rfl, hs8, hb8, ht8⟩
    obtain ⟨P8, n8, c8, Q8, m8, d8, rfl, rfl⟩ := hs8.form_
    have HU8 := Lib.hid (HG7.out.up hb8)
    have HG8 := Lib.hid (HU8.out.add hs8 ht8)
    have hx8 : w3.heap.size < w8.heap.size := HU8.out.tl.tl.at0.blk.lt
    clear hs8 hb8 ht8 HC HG7 x0 x1 x2 x3 x4 x5
    obtain ⟨x0, x1, x2, x3, x4, x5⟩ := HU8.out.tl.tl.at0.c
    obtain ⟨st9, er9, hr⟩ : ∃ st9 er9, placeR st kk bb = (st9, er9) := ⟨_, _, rfl⟩
    have HK9 := Lib.hid (show er9 = 0 → VP st9 from fun h0 => by
      have hkk := place_keep HK.out (k := kk) (b := bb) hbb1 (by rw [hr]; exact h0)
      rw [hr] at hkk
      exact hkk.1.v)
    have HC := Lib.hid (hr ▸ place_any (k := kk) (b := bb) HG8.out.tl.tl.tl.at0.sv)
    clear hr
    go_wp2_with fail
    refine HC.out.mono ?_
    rintro e w9 ⟨a9, b9, rfl, hs9, hb9, ht9⟩
    obtain ⟨P9, n9, c9, Q9, m9, d9, rfl, rfl⟩ := hs9.form_
    have HU9 := Lib.hid (HG8.out.up hb9)
    have HG9 := Lib.hid (HU9.out.add hs9 ht9)
    have hx9 : w3.heap.size < w9.heap.size := HU9.out.tl.tl.tl.at0.blk.lt
    clear hs9 hb9 ht9 HC HG8 x0 x1 x2 x3 x4 x5
    obtain ⟨x0, x1, x2, x3, x4, x5⟩ := HU9.out.tl.tl.tl.at0.c
    obtain ⟨st10, er10, hr⟩ : ∃ st10 er10, clearR st kk = (st10, er10) := ⟨_, _, rfl⟩
    have HK10 := Lib.hid (show er10 = 0 → VP st10 from fun h0 => by
      have hkk := clear_keep HK.out (k := kk) (by show (0 : Int) < 14; omega) (by rw [hr]; exact h0)
      rw [hr] at hkk
      exact hkk.1.v)
    have HC := Lib.hid (hr ▸ clear_any (k := kk) HG9.out.tl.tl.tl.tl.at0.sv)
    clear hr
    go_wp2_with fail
    refine HC.out.mono ?_
    rintro e w10 ⟨a10, b10, rfl, hs10, hb10, ht10⟩
    obtain ⟨P10, n10, c10, Q10, m10, d10, rfl, rfl⟩ := hs10.form_
    have HU10 := Lib.hid (HG9.out.up hb10)
    have HG10 := Lib.hid (HU10.out.add hs10 ht10)
    have hx10 : w3.heap.size < w10.heap.size := HU10.out.tl.tl.tl.tl.at0.blk.lt
    clear hs10 hb10 ht10 HC HG9 x0 x1 x2 x3 x4 x5
    obtain ⟨x0, x1, x2, x3, x4, x5⟩ := HU10.out.tl.tl.tl.tl.at0.c
    go_wp2_with fail
    have HGd := Lib.hid (HG10.out.up (Below.refl _ _).drew)
    have HGz := Lib.hid (HGd.out.zeroAt (g := w10.heap.size + 1) (by simp))
    have hz10 : w3.heap.size < w10.heap.size + 1 := by omega
    go_cut [17, 18] from 67 to 75 (fun v e wx => ∃ (g : Nat) (stz : St) (a b : Value) (er : Int), v = .pointer (some ⟨g, 0, none⟩) ∧ e = .int .i64 er ∧ (er = 0 → VP stz) ∧ Bag W wx ((g, stz, a, b) :: [(w10.heap.size, st10, .slice P10 n10 c10, .slice Q10 m10 d10), (w9.heap.size, st9, .slice P9 n9 c9, .slice Q9 m9 d9), (w8.heap.size, st8, .slice P8 n8 c8, .slice Q8 m8 d8), (w7.heap.size, st7, .slice P7 n7 c7, .slice Q7 m7 d7), (g5, st, .slice P5 n5 d5, .slice Q5 m5 k5), (w3.heap.size, st, .slice A4 st.slots.length c4, .slice A5 st.missed.length c5)]))
    case first =>
      go_region_with (first
        | (
          go_at_call 16
          refine (srcN_any W.heap.size W.heap.size 2 _ HGd.out.s (by omega) (by omega)).mono ?_
          rintro e w11 ⟨dd, ⟨hdd0, hdd1⟩, rfl, hs11, ho11⟩
          have HGw11 := Lib.hid (HGd.out.srcd hs11 ho11)
          have HZw11 := Lib.hid HGw11.out.zero
          have hxw11 : w3.heap.size < w11.heap.size := HGw11.out.tl.tl.tl.tl.tl.at0.blk.lt
          clear hs11 ho11 x0 x1 x2 x3 x4 x5
          obtain ⟨x0, x1, x2, x3, x4, x5⟩ := HGw11.out.tl.tl.tl.tl.tl.at0.c
          obtain ⟨st12, er12, hr⟩ : ∃ st12 er12, dirtyR st kk (dd == 0) = (st12, er12) := ⟨_, _, rfl⟩
          have HK12 := Lib.hid (show er12 = 0 → VP st12 from fun h0 => by
            have hkk := dirty_keep HK.out (k := kk) (d := dd == 0) (by rw [hr]; exact h0)
            rw [hr] at hkk
            exact hkk.1.v)
          have HR := Lib.hid hr
          clear hr)
        | (
          go_at_call 16
          refine (srcN_any W.heap.size W.heap.size 2 _ HGz.out.s (by omega) (by omega)).mono ?_
          rintro e w11y ⟨dd, ⟨hdd0, hdd1⟩, rfl, hs11, ho11⟩
          have HGw11y := Lib.hid (HGz.out.srcd hs11 ho11)
          have hxw11y : w3.heap.size < w11y.heap.size := HGw11y.out.tl.tl.tl.tl.tl.tl.at0.blk.lt
          clear hs11 ho11 x0 x1 x2 x3 x4 x5
          obtain ⟨x0, x1, x2, x3, x4, x5⟩ := HGw11y.out.tl.tl.tl.tl.tl.tl.at0.c
          obtain ⟨st12, er12, hr⟩ : ∃ st12 er12, dirtyR st kk (dd == 0) = (st12, er12) := ⟨_, _, rfl⟩
          have HK12 := Lib.hid (show er12 = 0 → VP st12 from fun h0 => by
            have hkk := dirty_keep HK.out (k := kk) (d := dd == 0) (by rw [hr]; exact h0)
            rw [hr] at hkk
            exact hkk.1.v)
          have HR := Lib.hid hr
          clear hr)
        | (
          go_at_call 32
          refine (HR.out ▸ setdirty_any (k := kk) (d := dd == 0) HGw11.out.tl.tl.tl.tl.tl.at0.sv).mono ?_
          rintro e w12 ⟨a12, b12, rfl, hs12, hb12, ht12⟩
          obtain ⟨P12, n12, c12, Q12, m12, d12, rfl, rfl⟩ := hs12.form_
          have HUw12 := Lib.hid (HGw11.out.up hb12)
          have HS12 := Lib.hid hs12
          have HT12 := Lib.hid ht12
          clear hs12 hb12 ht12 x0 x1 x2 x3 x4 x5)
        | (
          go_at_call 32
          refine (HR.out ▸ setdirty_any (k := kk) (d := dd == 0) HZw11.out.tl.tl.tl.tl.tl.tl.at0.sv).mono ?_
          rintro e w12z ⟨a12, b12, rfl, hs12, hb12, ht12⟩
          obtain ⟨P12, n12, c12, Q12, m12, d12, rfl, rfl⟩ := hs12.form_
          have HUw12z := Lib.hid (HZw11.out.up hb12)
          have HS12 := Lib.hid hs12
          have HT12 := Lib.hid ht12
          clear hs12 hb12 ht12 x0 x1 x2 x3 x4 x5
          obtain ⟨y0, y1, y2, y3, y4, y5⟩ := HUw12z.out.at0.c)
        | (
          go_at_call 32
          refine (HR.out ▸ setdirty_any (k := kk) (d := dd == 0) HGw11y.out.tl.tl.tl.tl.tl.tl.at0.sv).mono ?_
          rintro e w12y ⟨a12, b12, rfl, hs12, hb12, ht12⟩
          obtain ⟨P12, n12, c12, Q12, m12, d12, rfl, rfl⟩ := hs12.form_
          have HUw12y := Lib.hid (HGw11y.out.up hb12)
          have HS12 := Lib.hid hs12
          have HT12 := Lib.hid ht12
          clear hs12 hb12 ht12 x0 x1 x2 x3 x4 x5
          obtain ⟨y0, y1, y2, y3, y4, y5⟩ := HUw12y.out.at0.c))
      all_goals
        go_wp2_with fail
        go_meet
        case rel => first
          | exact ⟨_, st12, _, _, er12, rfl, rfl, HK12.out, HUw12.out.add HS12.out HT12.out⟩
          | exact ⟨_, st12, _, _, er12, rfl, rfl, HK12.out, HUw12z.out.put (by have := HGd.out.s.lt.2.2; have := HGw11.out.s.lt.2.2; omega) HGw11.out.asc.ne HS12.out HT12.out⟩
          | exact ⟨_, st12, _, _, er12, rfl, rfl, HK12.out, HUw12y.out.put (by have h := HGd.out.s.lt.2.2; simp at h; omega) (by have h := HGd.out.asc.ne; simp at h ⊢; exact h) HS12.out HT12.out⟩
    case rest =>
      obtain ⟨g12, st12, a12, b12, er12, rfl, rfl, hk12, hg12⟩ := hcut
      obtain ⟨P12, n12, c12, Q12, m12, d12, rfl, rfl⟩ := hg12.at0.sv.form_
      have HK12 := Lib.hid hk12
      have HG12 := Lib.hid hg12
      clear hk12 hg12 HGd HGz HG10
      clear x0 x1 x2 x3 x4 x5
      obtain ⟨x0, x1, x2, x3, x4, x5⟩ := HG12.out.tl.tl.tl.tl.tl.tl.at0.c
      obtain ⟨y0, y1, y2, y3, y4, y5⟩ := HG12.out.tl.tl.tl.tl.tl.at0.c
      have hlm := (hd_iff.1 HK.out.v.hd).2.2.2.2
      have HC := Lib.hid (same_any HG12.out.tl.tl.tl.tl.tl.tl.at0.sv HG12.out.tl.tl.tl.tl.tl.at0.sv (by omega) (by omega))
      clear hlm
      go_wp2_with fail
      refine HC.out.mono ?_
      rintro e w13 ⟨rfl, hb13⟩
      have HG13 := Lib.hid (HG12.out.up hb13)
      clear hb13 HC HG12 x0 x1 x2 x3 x4 x5 y0 y1 y2 y3 y4 y5
      obtain ⟨p0, p1, p2, p3, p4, p5⟩ := HG13.out.tl.tl.tl.tl.at0.c
      have e40 := CalmW.cell p0
      have e41 := CalmW.cell p1
      have e42 := CalmW.cell p2
      clear p0 p1 p2 p3 p4 p5
      obtain ⟨p0, p1, p2, p3, p4, p5⟩ := HG13.out.tl.tl.tl.at0.c
      have e30 := CalmW.cell p0
      have e31 := CalmW.cell p1
      have e32 := CalmW.cell p2
      clear p0 p1 p2 p3 p4 p5
      obtain ⟨p0, p1, p2, p3, p4, p5⟩ := HG13.out.tl.tl.at0.c
      have e20 := CalmW.cell p0
      have e21 := CalmW.cell p1
      have e22 := CalmW.cell p2
      clear p0 p1 p2 p3 p4 p5
      obtain ⟨p0, p1, p2, p3, p4, p5⟩ := HG13.out.tl.at0.c
      have e10 := CalmW.cell p0
      have e11 := CalmW.cell p1
      have e12 := CalmW.cell p2
      clear p0 p1 p2 p3 p4 p5
      obtain ⟨p0, p1, p2, p3, p4, p5⟩ := HG13.out.at0.c
      have e00 := CalmW.cell p0
      have e01 := CalmW.cell p1
      have e02 := CalmW.cell p2
      clear p0 p1 p2 p3 p4 p5
      obtain ⟨nn, hnn⟩ : ∃ nn : CalmW w13, nn.w = w13 := ⟨⟨w13, Below.refl _ _⟩, rfl⟩
      rw [← hnn]
      clear hnn
      have HQ := Lib.hid (fun (n : CalmW w13) => HG13.out.up n.ok)
      go_wp2_with (first | (go_at_call 14; refine (Calls.calm (bag_valid (HQ.out _) ?_)).mono ?_; (first | exact ⟨_, _, .tail _ (.tail _ (.tail _ (.tail _ (.head _)))), rfl, HK7.out (by assumption)⟩ | exact ⟨_, _, .tail _ (.tail _ (.tail _ (.head _))), rfl, HK8.out (by assumption)⟩ | exact ⟨_, _, .tail _ (.tail _ (.head _)), rfl, HK9.out (by assumption)⟩ | exact ⟨_, _, .tail _ (.head _), rfl, HK10.out (by assumption)⟩ | exact ⟨_, _, .head _, rfl, HK12.out (by assumption)⟩); rintro e _ ⟨rfl, n2, rfl⟩) | (go_at_call 15; refine (Calls.calm (awake_any _)).mono ?_; rintro e _ ⟨rfl, n2, rfl⟩))
      all_goals
        go_ret
        exact ⟨rfl, HG13.out.b.next (CalmW.ok _)⟩
end Go.Proofs.Ytmmdckijokiomaa
