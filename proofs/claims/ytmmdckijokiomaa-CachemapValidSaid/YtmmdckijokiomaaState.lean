/- state makes a good state (printed by genState.py). -/
import Derived.Test.YtmmdckijokiomaaState0
namespace Go.Proofs.Ytmmdckijokiomaa
open Go.RowKit

structure XX (B sb : Nat) (w wr : World) (gx : Nat) (st : St) (a b : Value) : Prop where
  x : At wr gx st a b
  k : VPP P14 st
  len : st.slots.length ≤ 5
  src : SrcOk B wr sb
  only : Only (· = sb) w wr
  res : Blk wr w.heap.size 25 #[.slice none 0 0, .int .i64 0, .slice none 0 0]
  lx : w.heap.size < gx
theorem XX.srcd {B sb : Nat} {w wr w' : World} {gx : Nat} {st : St} {a b : Value} (h : XX B sb w wr gx st a b) (hs : SrcOk B w' sb) (ho : Only (· = sb) wr w') : XX B sb w w' gx st a b := by
  obtain ⟨x, hx⟩ := src_blk h.src
  exact ⟨h.x.srcd h.src ho, h.k, h.len, hs, h.only.trans ho, h.res.only ho (h.res.ne_ hx (by decide)), h.lx⟩
theorem XX.addY {B sb : Nat} {w wr : World} {gx : Nat} {st : St} {a b : Value} (h : XX B sb w wr gx st a b) : XY B sb w (wr.alloc (.cells #[a, .int .i64 st.clock, b] 25)) gx st a b wr.heap.size st a b :=
  have hb := (Below.refl wr.heap.size wr).al (.cells #[a, .int .i64 st.clock, b] 25)
  ⟨h.x.up hb, At.new_ h.x.sv h.x.typ, h.k, h.len, h.src.below hb, h.only.next hb, h.res.below hb h.res.lt, h.lx, h.x.blk.lt⟩
theorem XY.xx {B sb : Nat} {w wr : World} {gx gy : Nat} {st sty : St} {a b ay by' : Value} (h : XY B sb w wr gx st a b gy sty ay by') : XX B sb w wr gx st a b := ⟨h.x, h.k, h.len, h.src, h.only, h.res, h.lx⟩
def StateRet (B sb : Nat) (w : World) (e : Ending) (w' : World) : Prop := ∃ st a b, e = .returned (.agg #[a, .int .i64 st.clock, b]) ∧ SV w' w'.heap.size st a b ∧ Typ w' a b ∧ VPP P14 st ∧ st.slots.length ≤ 5 ∧ SrcOk B w' sb ∧ Only (· = sb) w w'
theorem new_good {n : Int} (h1 : 1 ≤ n) (h2 : n ≤ 5) : ∃ st, newR n = (st, 0) ∧ VPP P14 st ∧ st.slots.length ≤ 5 := by
  obtain ⟨a, b⟩ := new_keep (P := P14) (n := n) (by show (0 : Int) < 14; omega) h1 h2
  refine ⟨(newR n).1, ?_, a, b⟩
  unfold newR
  rw [if_neg (by omega)]

set_option maxRecDepth 100000 in
set_option maxHeartbeats 8000000 in
theorem state_any {B sb : Nat} {steps : Int} {w : World} (h : SrcOk B w sb) (h0 : 0 ≤ steps) (h1 : steps ≤ 1000) : Calls Try.prog 34 #[.pointer (some ⟨sb, 0, none⟩), .int .i64 steps] w (StateRet B sb w) := by
  go_enter Try.func34, Try.ntmps34
  go_wp2_with fail
  have hb0 := (Below.refl w.heap.size w).al (.cells #[.slice none 0 0, .int .i64 0, .slice none 0 0] 25)
  have hbw := h.lt.2.2
  refine (srcRange_any B sb 1 5 _ (h.below hb0) (by omega) (by omega) (by omega)).mono ?_
  rintro e w2 ⟨n, ⟨hn1, hn2⟩, rfl, hs2, ho2⟩
  go_wp2_with fail
  obtain ⟨st0, hr0, hk0, hl0⟩ := new_good hn1 hn2
  have HC0 := Lib.hid (hr0 ▸ rnew_any n w2)
  clear hr0
  refine HC0.out.mono ?_
  rintro e w3 ⟨a3, b3, rfl, hs3, hb3, ht3⟩
  obtain ⟨A3, n3, c3, D3, m3, d3, rfl, rfl⟩ := hs3.form_
  have HBW := Lib.hid hbw
  have HX0 := Lib.hid (show XX B sb w (w3.alloc (.cells #[.slice A3 n3 c3, .int .i64 st0.clock, .slice D3 m3 d3] 25)) w3.heap.size st0 (.slice A3 n3 c3) (.slice D3 m3 d3) from by
    obtain ⟨x, hx⟩ := src_blk (h.below hb0)
    have hb4 := (Below.refl w3.heap.size w3).al (.cells #[.slice A3 n3 c3, .int .i64 st0.clock, .slice D3 m3 d3] 25)
    have r0 := Blk.new w 25 #[.slice none 0 0, .int .i64 0, .slice none 0 0]
    have r3 := (r0.only ho2 (r0.ne_ hx (by decide))).below hb3 (r0.only ho2 (r0.ne_ hx (by decide))).lt
    exact ⟨At.new_ hs3 ht3, hk0, hl0, (hs2.below hb3).below hb4, ((((Only.of_below _ hb0).trans ho2).next hb3).next hb4), r3.below hb4 r3.lt, r3.lt⟩)
  have hsz3 : w.heap.size < w3.heap.size := by
    have := HX0.out.lx
    exact this
  clear hs2 ho2 hs3 hb3 ht3 hb0 hk0 hl0 h
  go_wp2_with fail
  go_loopw [7] (fun v wr => ∃ (k : Nat) (st : St) (a b : Value), (k : Int) ≤ steps ∧ v = .int .i64 (k : Int) ∧ XX B sb w wr w3.heap.size st a b) (fun v _ => steps.toNat - (intOf v).toNat)
  case atStart => exact ⟨0, st0, _, _, by omega, rfl, HX0.out⟩
  case round =>
    obtain ⟨k, st, a, b, hk, rfl, hxx⟩ := hrel
    obtain ⟨⟨A1, c1, e1, _, _⟩, ⟨A2, c2, e2, _, _⟩⟩ := id hxx.x.sv
    subst e1 e2
    have HX := Lib.hid hxx
    have hl5 := hxx.len
    have hl1 := (hd_iff.1 hxx.k.v.hd).1
    clear hxx HX0 HC0
    obtain ⟨x0, x1, x2, x3, x4, x5⟩ := HX.out.x.c
    have HN := Lib.hid (srcN_any B sb (st.slots.length : Int) wr HX.out.src (by omega) (by omega))
    by_cases hlt : (k : Int) < steps
    case neg =>
      obtain ⟨z0, z1, z2, z3, z4, z5⟩ : wr.cell? ⟨w.heap.size, 0, none⟩ = some (.slice none 0 0) ∧ wr.cell? ⟨w.heap.size, 1, none⟩ = some (.int .i64 0) ∧ wr.cell? ⟨w.heap.size, 2, none⟩ = some (.slice none 0 0) ∧ wr.frozen? ⟨w.heap.size, 0, none⟩ = false ∧ wr.frozen? ⟨w.heap.size, 1, none⟩ = false ∧ wr.frozen? ⟨w.heap.size, 2, none⟩ = false :=
        ⟨by rw [HX.out.res.cell]; rfl, by rw [HX.out.res.cell]; rfl, by rw [HX.out.res.cell]; rfl, HX.out.res.frozen 0, HX.out.res.frozen 1, HX.out.res.frozen 2⟩
      go_wp2_with fail
      exact bodyPost_ret (results_cell_row rfl _ _ w.heap.size 25 #[.slice A1 st.slots.length c1, .int .i64 st.clock, .slice A2 st.missed.length c2] (0, 0) _ rfl (put3_blk HX.out.res) Try.underlying25 rfl (by kernel_rfl)) rfl
        ⟨st, _, _, rfl, (HX.out.x.sv.only_ HX.out.x.typ HX.out.res (by decide) (by decide) (put3_only _ _ _ _ _)).more (put3_only _ _ _ _ _).size, HX.out.x.typ.only_ HX.out.res (by decide) (by decide) (put3_only _ _ _ _ _), HX.out.k, HX.out.len,
          put_src HX.out.src HX.out.res HBW.out _ _ _, put_only HX.out.only (Nat.le_refl _) _ _ _⟩
    go_wp2_with fail
    refine HN.out.mono ?_
    rintro e w5 ⟨kk, ⟨hkk0, hkk1⟩, rfl, hs5, ho5⟩
    have HX5 := Lib.hid (HX.out.srcd hs5 ho5)
    clear hs5 ho5 x0 x1 x2 x3 x4 x5
    obtain ⟨x0, x1, x2, x3, x4, x5⟩ := HX5.out.x.c
    go_wp2_with fail
    refine (srcN_any B sb 14 w5 HX5.out.src (by omega) (by omega)).mono ?_
    rintro e w6 ⟨bb, ⟨hbb0, hbb1⟩, rfl, hs6, ho6⟩
    have HX6 := Lib.hid (HX5.out.srcd hs6 ho6)
    clear hs6 ho6 x0 x1 x2 x3 x4 x5
    obtain ⟨x0, x1, x2, x3, x4, x5⟩ := HX6.out.x.c
    have HY6 := Lib.hid HX6.out.addY
    have hg6 : w3.heap.size < w6.heap.size := HY6.out.ly
    go_wp2_with fail
    refine (srcN_any B sb 6 _ HY6.out.src (by omega) (by omega)).mono ?_
    rintro e w7 ⟨cc, ⟨hcc0, hcc1⟩, rfl, hs7, ho7⟩
    have HY7 := Lib.hid (HY6.out.srcd hs7 ho7)
    clear hs7 ho7 HX HX5 HX6 HY6 HN
    clear x0 x1 x2 x3 x4 x5
    obtain ⟨x0, x1, x2, x3, x4, x5⟩ := HY7.out.x.c
    obtain ⟨y0, y1, y2, y3, y4, y5⟩ := HY7.out.y.c

    have hcc : cc = 0 ∨ cc = 1 ∨ cc = 2 ∨ cc = 3 ∨ cc = 4 ∨ cc = 5 := by omega
    rcases hcc with rfl | rfl | rfl | rfl | rfl | rfl
    iterate 2
      · clear hcc0 hcc1
        obtain ⟨st2, qq, er, hr⟩ : ∃ st2 qq er, missR st bb = (st2, qq, er) := ⟨_, _, _, rfl⟩
        have HK2 := Lib.hid (show er = 0 → VPP P14 st2 ∧ st2.slots.length ≤ 5 from fun h0 => by
          have hkk := miss_keep HY7.out.k (b := bb) hbb1 (by rw [hr]; exact h0)
          rw [hr] at hkk
          exact ⟨hkk.1, Nat.le_trans (Nat.le_of_eq hkk.2) HY7.out.len⟩)
        have HC := Lib.hid (hr ▸ rmiss_any (b := bb) HY7.out.x.sv)
        clear hr
        go_wp2_with fail
        refine HC.out.mono ?_
        rintro e w8 ⟨a8, b8, rfl, hs8, hb8, ht8⟩
        obtain ⟨P8, n8, c8, Q8, m8, d8, rfl, rfl⟩ := hs8.form_
        have HY8 := Lib.hid (HY7.out.up hb8)
        have HYP := Lib.hid (HY8.out.putY HBW.out hs8 ht8)
        clear hs8 hb8 ht8
        clear x0 x1 x2 x3 x4 x5 y0 y1 y2 y3 y4 y5
        obtain ⟨x0, x1, x2, x3, x4, x5⟩ := HY8.out.x.c
        obtain ⟨y0, y1, y2, y3, y4, y5⟩ := HY8.out.y.c
        by_cases he : er = 0
        · subst he
          obtain ⟨hk2, hl2⟩ := HK2.out rfl
          have HXX := Lib.hid (HYP.out.putX HBW.out HYP.out.y.sv HYP.out.y.typ hk2 hl2).xx
          clear hk2 hl2
          go_wp2_with fail
          go_roundw
          case rel => exact ⟨k + 1, _, _, _, by omega, by go_num, HXX.out⟩
          case measure => simp [intOf]; omega
        · have q1 : (er == 0) = false := beq_eq_false_iff_ne.2 he
          clear he
          go_wp2_with fail
          go_roundw
          case rel => exact ⟨k + 1, _, _, _, by omega, by go_num, HYP.out.xx⟩
          case measure => simp [intOf]; omega

    · clear hcc0 hcc1
      obtain ⟨i, t, hvi, hti, _⟩ := vIdx_spec HY7.out.k.v
      have hil := (List.getElem?_eq_some_iff.1 hti).1
      have HC := Lib.hid (victim_in (valid_iff.2 HY7.out.k.v) hvi ▸ rvictim_any HY7.out.x.sv)
      have HT := Lib.hid hti
      have i0 : (i : Int) < (st.slots.length : Int) := by omega
      clear hvi hti
      go_wp2_with fail
      refine HC.out.mono ?_
      rintro e w8 ⟨rfl, hb8⟩
      have HY8 := Lib.hid (HY7.out.up hb8)
      clear hb8 HC
      obtain ⟨⟨A1', c1', e1', hs1, _⟩, _⟩ := id HY8.out.x.sv
      obtain ⟨rfl, rfl⟩ : A1 = A1' ∧ c1 = c1' := by injection e1' with q1 _ q2; exact ⟨q1, q2⟩
      obtain ⟨g, t2, rfl, hg, ht, hf⟩ := hs1.at_ hil
      obtain rfl := Option.some.inj (HT.out.symm.trans ht)
      obtain ⟨va, di, bl', sp⟩ := t
      obtain ⟨a0, a1, a2, a3⟩ := hf
      simp only at a0 a1
      clear ht hg e1' hs1
      clear x0 x1 x2 x3 x4 x5 y0 y1 y2 y3 y4 y5
      obtain ⟨x0, x1, x2, x3, x4, x5⟩ := HY8.out.x.c
      obtain ⟨y0, y1, y2, y3, y4, y5⟩ := HY8.out.y.c
      cases di with
      | true =>
        have HXX := Lib.hid (HY8.out.putX HBW.out HY8.out.y.sv HY8.out.y.typ HY8.out.k HY8.out.len).xx
        go_wp2_with fail
        go_roundw
        case rel => exact ⟨k + 1, _, _, _, by omega, by go_num, HXX.out⟩
        case measure => simp [intOf]; omega
      | false =>
        have hcl := clear_ok HY8.out.k.v HT.out rfl
        have HK1 := Lib.hid (show VPP P14 ⟨st.slots.set i sz, st.clock, st.missed⟩ ∧ (st.slots.set i sz).length ≤ 5 from by
          have hkk := clear_keep HY8.out.k (k := (i : Int)) (by show (0 : Int) < 14; omega) (by rw [hcl])
          rw [hcl] at hkk
          exact ⟨hkk.1, Nat.le_trans (Nat.le_of_eq hkk.2) HY8.out.len⟩)
        have HC := Lib.hid (hcl ▸ rclear_any (k := (i : Int)) HY8.out.x.sv)
        clear hcl
        go_wp2_with fail
        refine HC.out.mono ?_
        rintro e w9 ⟨a9, b9, rfl, hs9, hb9, ht9⟩
        obtain ⟨P9, n9, c9, Q9, m9, d9, rfl, rfl⟩ := hs9.form_
        have HY9 := Lib.hid (HY8.out.up hb9)
        have HYX := Lib.hid (HY9.out.putX HBW.out hs9 ht9 HK1.out.1 HK1.out.2)
        clear hs9 hb9 ht9 HC a0 a1 a2 a3
        clear x0 x1 x2 x3 x4 x5 y0 y1 y2 y3 y4 y5
        obtain ⟨x0, x1, x2, x3, x4, x5⟩ := HY9.out.x.c
        obtain ⟨y0, y1, y2, y3, y4, y5⟩ := HY9.out.y.c
        obtain ⟨st2, er, hr⟩ : ∃ st2 er, placeR ⟨st.slots.set i sz, st.clock, st.missed⟩ (i : Int) bb = (st2, er) := ⟨_, _, rfl⟩
        have HK2 := Lib.hid (show er = 0 → VPP P14 st2 ∧ st2.slots.length ≤ 5 from fun h0 => by
          have hkk := place_keep HYX.out.k (k := (i : Int)) (b := bb) hbb1 (by rw [hr]; exact h0)
          rw [hr] at hkk
          exact ⟨hkk.1, Nat.le_trans (Nat.le_of_eq hkk.2) HYX.out.len⟩)
        have HC := Lib.hid (hr ▸ rplace_any (k := (i : Int)) (b := bb) HYX.out.x.sv)
        clear hr
        go_wp2_with fail
        refine HC.out.mono ?_
        rintro e w10 ⟨a10, b10, rfl, hs10, hb10, ht10⟩
        obtain ⟨P10, n10, c10, Q10, m10, d10, rfl, rfl⟩ := hs10.form_
        have HY10 := Lib.hid (HYX.out.up hb10)
        have HYP := Lib.hid (HY10.out.putY HBW.out hs10 ht10)
        clear hs10 hb10 ht10
        clear x0 x1 x2 x3 x4 x5 y0 y1 y2 y3 y4 y5
        obtain ⟨x0, x1, x2, x3, x4, x5⟩ := HY10.out.x.c
        obtain ⟨y0, y1, y2, y3, y4, y5⟩ := HY10.out.y.c
        by_cases he : er = 0
        · subst he
          obtain ⟨hk2, hl2⟩ := HK2.out rfl
          have HXX := Lib.hid (HYP.out.putX HBW.out HYP.out.y.sv HYP.out.y.typ hk2 hl2).xx
          clear hk2 hl2
          go_wp2_with fail
          go_roundw
          case rel => exact ⟨k + 1, _, _, _, by omega, by go_num, HXX.out⟩
          case measure => simp [intOf]; omega
        · have q1 : (er == 0) = false := beq_eq_false_iff_ne.2 he
          clear he
          go_wp2_with fail
          go_roundw
          case rel => exact ⟨k + 1, _, _, _, by omega, by go_num, HYP.out.xx⟩
          case measure => simp [intOf]; omega
    · clear hcc0 hcc1
      obtain ⟨st2, er, hr⟩ : ∃ st2 er, touchR st kk = (st2, er) := ⟨_, _, rfl⟩
      have HK2 := Lib.hid (show er = 0 → VPP P14 st2 ∧ st2.slots.length ≤ 5 from fun h0 => by
        have hkk := touch_keep HY7.out.k (k := kk) (by rw [hr]; exact h0)
        rw [hr] at hkk
        exact ⟨hkk.1, Nat.le_trans (Nat.le_of_eq hkk.2) HY7.out.len⟩)
      have HC := Lib.hid (hr ▸ rtouch_any (k := kk) HY7.out.x.sv)
      clear hr
      go_wp2_with fail
      refine HC.out.mono ?_
      rintro e w8 ⟨a8, b8, rfl, hs8, hb8, ht8⟩
      obtain ⟨P8, n8, c8, Q8, m8, d8, rfl, rfl⟩ := hs8.form_
      have HY8 := Lib.hid (HY7.out.up hb8)
      have HYP := Lib.hid (HY8.out.putY HBW.out hs8 ht8)
      clear hs8 hb8 ht8
      clear x0 x1 x2 x3 x4 x5 y0 y1 y2 y3 y4 y5
      obtain ⟨x0, x1, x2, x3, x4, x5⟩ := HY8.out.x.c
      obtain ⟨y0, y1, y2, y3, y4, y5⟩ := HY8.out.y.c
      by_cases he : er = 0
      · subst he
        obtain ⟨hk2, hl2⟩ := HK2.out rfl
        have HXX := Lib.hid (HYP.out.putX HBW.out HYP.out.y.sv HYP.out.y.typ hk2 hl2).xx
        clear hk2 hl2
        go_wp2_with fail
        go_roundw
        case rel => exact ⟨k + 1, _, _, _, by omega, by go_num, HXX.out⟩
        case measure => simp [intOf]; omega
      · have q1 : (er == 0) = false := beq_eq_false_iff_ne.2 he
        clear he
        go_wp2_with fail
        go_roundw
        case rel => exact ⟨k + 1, _, _, _, by omega, by go_num, HYP.out.xx⟩
        case measure => simp [intOf]; omega

    · clear hcc0 hcc1
      go_wp2_with fail
      have HYD := Lib.hid (HY7.out.up (Below.refl _ _).drew)
      clear x0 x1 x2 x3 x4 x5 y0 y1 y2 y3 y4 y5
      obtain ⟨x0, x1, x2, x3, x4, x5⟩ := HYD.out.x.c
      obtain ⟨y0, y1, y2, y3, y4, y5⟩ := HYD.out.y.c
      go_region_with (first
          | (
            go_at_call 16
            refine (srcN_any B sb 2 _ HYD.out.src (by omega) (by omega)).mono ?_
            rintro e w8 ⟨dd, ⟨hdd0, hdd1⟩, rfl, hs8, ho8⟩
            have HY8 := Lib.hid (HYD.out.srcd hs8 ho8)
            clear hs8 ho8 x0 x1 x2 x3 x4 x5 y0 y1 y2 y3 y4 y5
            obtain ⟨x0, x1, x2, x3, x4, x5⟩ := HY8.out.x.c
            obtain ⟨y0, y1, y2, y3, y4, y5⟩ := HY8.out.y.c
            obtain ⟨st2, er, hr⟩ : ∃ st2 er, dirtyR st kk (dd == 0) = (st2, er) := ⟨_, _, rfl⟩
            have HK2 := Lib.hid (show er = 0 → VPP P14 st2 ∧ st2.slots.length ≤ 5 from fun h0 => by
              have hkk := dirty_keep HY8.out.k (k := kk) (d := dd == 0) (by rw [hr]; exact h0)
              rw [hr] at hkk
              exact ⟨hkk.1, Nat.le_trans (Nat.le_of_eq hkk.2) HY8.out.len⟩)
            have HC := Lib.hid (hr ▸ rsetdirty_any (k := kk) (d := dd == 0) HY8.out.x.sv)
            clear hr)
          | (
            go_at_call 33
            refine HC.out.mono ?_
            rintro e w9 ⟨a9, b9, rfl, hs9, hb9, ht9⟩
            obtain ⟨P9, n9, c9, Q9, m9, d9, rfl, rfl⟩ := hs9.form_
            have HY9 := Lib.hid (HY8.out.up hb9)
            have HYP := Lib.hid (HY9.out.putY HBW.out hs9 ht9)
            clear hs9 hb9 ht9 x0 x1 x2 x3 x4 x5 y0 y1 y2 y3 y4 y5
            obtain ⟨x0, x1, x2, x3, x4, x5⟩ := HY9.out.x.c
            obtain ⟨y0, y1, y2, y3, y4, y5⟩ := HY9.out.y.c))
      all_goals (
        by_cases he : er = 0
        · subst he
          obtain ⟨hk2, hl2⟩ := HK2.out rfl
          have HXX := Lib.hid (HYP.out.putX HBW.out HYP.out.y.sv HYP.out.y.typ hk2 hl2).xx
          clear hk2 hl2
          go_wp2_with fail
          go_roundw
          case rel => exact ⟨k + 1, _, _, _, by omega, by go_num, HXX.out⟩
          case measure => simp [intOf]; omega
        · have q1 : (er == 0) = false := beq_eq_false_iff_ne.2 he
          clear he
          go_wp2_with fail
          go_roundw
          case rel => exact ⟨k + 1, _, _, _, by omega, by go_num, HYP.out.xx⟩
          case measure => simp [intOf]; omega)
    · clear hcc0 hcc1
      obtain ⟨st2, er, hr⟩ : ∃ st2 er, clearR st kk = (st2, er) := ⟨_, _, rfl⟩
      have HK2 := Lib.hid (show er = 0 → VPP P14 st2 ∧ st2.slots.length ≤ 5 from fun h0 => by
        have hkk := clear_keep HY7.out.k (k := kk) (by show (0 : Int) < 14; omega) (by rw [hr]; exact h0)
        rw [hr] at hkk
        exact ⟨hkk.1, Nat.le_trans (Nat.le_of_eq hkk.2) HY7.out.len⟩)
      have HC := Lib.hid (hr ▸ rclear_any (k := kk) HY7.out.x.sv)
      clear hr
      go_wp2_with fail
      refine HC.out.mono ?_
      rintro e w8 ⟨a8, b8, rfl, hs8, hb8, ht8⟩
      obtain ⟨P8, n8, c8, Q8, m8, d8, rfl, rfl⟩ := hs8.form_
      have HY8 := Lib.hid (HY7.out.up hb8)
      have HYP := Lib.hid (HY8.out.putY HBW.out hs8 ht8)
      clear hs8 hb8 ht8
      clear x0 x1 x2 x3 x4 x5 y0 y1 y2 y3 y4 y5
      obtain ⟨x0, x1, x2, x3, x4, x5⟩ := HY8.out.x.c
      obtain ⟨y0, y1, y2, y3, y4, y5⟩ := HY8.out.y.c
      by_cases he : er = 0
      · subst he
        obtain ⟨hk2, hl2⟩ := HK2.out rfl
        have HXX := Lib.hid (HYP.out.putX HBW.out HYP.out.y.sv HYP.out.y.typ hk2 hl2).xx
        clear hk2 hl2
        go_wp2_with fail
        go_roundw
        case rel => exact ⟨k + 1, _, _, _, by omega, by go_num, HXX.out⟩
        case measure => simp [intOf]; omega
      · have q1 : (er == 0) = false := beq_eq_false_iff_ne.2 he
        clear he
        go_wp2_with fail
        go_roundw
        case rel => exact ⟨k + 1, _, _, _, by omega, by go_num, HYP.out.xx⟩
        case measure => simp [intOf]; omega
end Go.Proofs.Ytmmdckijokiomaa
