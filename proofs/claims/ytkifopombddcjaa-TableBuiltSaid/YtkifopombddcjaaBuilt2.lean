/- The walk of built. -/
import Derived.Test.YtkifopombddcjaaPut
namespace Go.Proofs.Ytkifopombddcjaa
open Go.RowKit

theorem setcell_new (w : World) (a : Addr) (u : Value) : ∀ o, ((w.setCell a u).alloc o).heap[w.heap.size]? = some o := fun o => by
  have h := heap_alloc_new (w.setCell a u) o
  rw [show (w.setCell a u).heap.size = w.heap.size by simp [World.setCell]] at h
  exact h
theorem BS.grow {B sb : Nat} {w wr w' : World} {v v' : Value} {ts : List Tg} {t : Tg} {o : Obj} (h : BS B sb w wr v ts) (hlt : sb < w.heap.size) (hB : B ≤ w.heap.size)
    (ho : w'.ownsRow w.heap.size 44 5 v' (ts.length + 1) (C ts ++ [.int .i64 t.start, .int .i64 t.len, .string t.on, .int .i64 t.off, .bool t.fail])) (hg : (wr.alloc o).grownBy w' v.ownBlock) : BS B sb w w' v' (ts ++ [t]) := by
  have ho2 : Only (fun k => w.heap.size ≤ k) (wr.alloc o) w' := (Only.refl _ _).grown hg (fun k hk => .inl (h.own.lt k hk).1)
  exact ⟨by rw [C_append, List.length_append]; exact ho, (h.src.below ((Below.refl _ _).al _)).only ho2 (by omega) (fun k hk => by omega), (h.onl.alloc o).grown hg (fun k hk => .inr (h.own.lt k hk).1)⟩

set_option maxRecDepth 100000 in
set_option maxHeartbeats 8000000 in
theorem built_any (B sb : Nat) (w : World) (h : SrcOk B w sb) :
    Calls Try.prog 8 #[.pointer (some ⟨sb, 0, none⟩)] w (BuiltRet B sb w) := by
  have hlt := h.lt
  have H := Lib.hid h
  obtain ⟨i0, hi0, hz0, hz1, hz2⟩ := info_parts target_info
  clear h
  go_enter Try.func8, Try.ntmps8
  go_wp2_with fail
  refine (srcN_any B sb 8 w H.out (by omega) (by omega)).mono ?_
  rintro e w1 ⟨x, ⟨hx1, hx2⟩, rfl, hs1, ho1⟩
  obtain ⟨x, rfl⟩ := Int.eq_ofNat_of_zero_le hx1
  have HS1 := Lib.hid hs1
  have HO1 := Lib.hid ho1
  clear hs1 ho1 H
  go_wp2_with fail
  go_loopw [3, 4, 5, 6] (fun v s q i wr => ∃ (k : Nat) (st en : Int) (ts : List Tg), k ≤ 7 ∧ i = .int .i64 (k : Int) ∧ s = .int .i64 st ∧ q = .int .i64 en ∧ ts.length + k ≤ 7 ∧ 0 ≤ st ∧ st ≤ 5 * (ts.length : Int) ∧ 0 ≤ en ∧ en ≤ 8 + 5 * (ts.length : Int) ∧ BS B sb w wr v ts) (fun _ _ _ i _ => (intOf i).toNat)
  case atStart => exact ⟨x, 0, 0, [], by omega, rfl, rfl, rfl, by show 0 + x ≤ 7; omega, by omega, by show (0 : Int) ≤ 5 * ((0 : Nat) : Int); omega, by omega, by show (0 : Int) ≤ 8 + 5 * ((0 : Nat) : Int); omega, ⟨World.ownsRow_nil _ _ _ _, HS1.out, HO1.out⟩⟩
  case round =>
    clear HS1 HO1
    obtain ⟨k, st, en, ts, hk, rfl, rfl, rfl, hlen, hst0, hst1, hen0, hen1, hbs⟩ := hrel
    have HBS := Lib.hid hbs
    clear hbs
    by_cases h0 : 0 < k
    · have j0 : 0 < (k : Int) := by omega
      go_wp2_with fail
      refine (srcRange_any B sb 1 5 wr HBS.out.src (by omega) (by omega) (by omega)).mono ?_
      rintro e w2 ⟨ln, ⟨hl1, hl2⟩, rfl, hs2, ho2⟩
      have HBS2 := Lib.hid (HBS.out.srcd hlt.2.1 hs2 ho2)
      have HH2 := Lib.hid (BH.start (t := ⟨st, ln, ⟨#[]⟩, 0, false⟩) HBS2.out)
      clear hs2 ho2 HBS
      go_wp2_with fail
      refine (srcN_any B sb 5 _ HH2.out.bs.src (by omega) (by omega)).mono ?_
      rintro e w3 ⟨y, ⟨hy1, hy2⟩, rfl, hs3, ho3⟩
      have HH3 := Lib.hid (HH2.out.srcd hlt.2.1 hs3 ho3)
      clear hs3 ho3 HH2 HBS2
      rcases (show y = 0 ∨ y = 1 ∨ 2 ≤ y by omega) with rfl | rfl | hy3
      · skip
        have e0 : w3.cell? ⟨w2.heap.size, 0, none⟩ = some (.int .i64 st) := by rw [HH3.out.bt.cell]; rfl
        have e1 : w3.cell? ⟨w2.heap.size, 1, none⟩ = some (.int .i64 ln) := by rw [HH3.out.bt.cell]; rfl
        have e2 : w3.cell? ⟨w2.heap.size, 2, none⟩ = some (.string ⟨#[]⟩) := by rw [HH3.out.bt.cell]; rfl
        have e3 : w3.cell? ⟨w2.heap.size, 3, none⟩ = some (.int .i64 (0)) := by rw [HH3.out.bt.cell]; rfl
        have e4 : w3.cell? ⟨w2.heap.size, 4, none⟩ = some (.bool false) := by rw [HH3.out.bt.cell]; rfl
        have f2 := HH3.out.bt.frozen 2
        have f3 := HH3.out.bt.frozen 3
        have f4 := HH3.out.bt.frozen 4
        have HH4 := Lib.hid (HH3.out.set_ (t' := ⟨st, ln, ⟨#[]⟩, 0, true⟩) hlt.2.1 hlt.2.2 4 (.bool true) rfl)
        have HBN := Lib.hid (setcell_new w3 ⟨w2.heap.size, 4, none⟩ (.bool true))
        have hzc := HH3.out.bs.onl.size
        go_wp2_with (at_builtin; refine wpList_append_own _ rfl _ _ 25 rfl w.heap.size 44 i0 _ 5 48 Try.underlying25 hi0 hz0 hz1 hz2 rfl (by decide) _ _ _ rfl (HH4.out.bs.own.alloc _) ⟨w3.heap.size, 0, none⟩ 1 1 [.int .i64 st, .int .i64 ln, .string ⟨#[]⟩, .int .i64 (0), .bool true] rfl rfl (World.news_of_block (HBN.out _)) (by simp [Value.oneCell']) (by unfold maxLen; omega) (by omega) (by simp; omega) ?_; intro v' w8 hown' hgrow _)
        have HX := Lib.hid (HH4.out.bs.grow hlt.2.1 hlt.2.2 (t := ⟨st, ln, ⟨#[]⟩, 0, true⟩) hown' hgrow)
        clear hown' hgrow
        go_roundw
        case rel => exact ⟨k - 1, st + ln, en, _, by omega, by go_num, rfl, rfl, by rw [List.length_append]; show ts.length + 1 + (k - 1) ≤ 7; omega, by omega, by rw [List.length_append]; show st + ln ≤ 5 * ((ts.length + 1 : Nat) : Int); omega, by omega, by rw [List.length_append]; show en ≤ 8 + 5 * ((ts.length + 1 : Nat) : Int); omega, HX.out⟩
        case measure => simp [intOf]; omega
      · skip
        have e0 : w3.cell? ⟨w2.heap.size, 0, none⟩ = some (.int .i64 st) := by rw [HH3.out.bt.cell]; rfl
        have e1 : w3.cell? ⟨w2.heap.size, 1, none⟩ = some (.int .i64 ln) := by rw [HH3.out.bt.cell]; rfl
        have e2 : w3.cell? ⟨w2.heap.size, 2, none⟩ = some (.string ⟨#[]⟩) := by rw [HH3.out.bt.cell]; rfl
        have e3 : w3.cell? ⟨w2.heap.size, 3, none⟩ = some (.int .i64 (0)) := by rw [HH3.out.bt.cell]; rfl
        have e4 : w3.cell? ⟨w2.heap.size, 4, none⟩ = some (.bool false) := by rw [HH3.out.bt.cell]; rfl
        have f2 := HH3.out.bt.frozen 2
        have f3 := HH3.out.bt.frozen 3
        have f4 := HH3.out.bt.frozen 4
        have hzc := HH3.out.bs.onl.size
        go_wp2_with (at_builtin; refine wpList_append_own _ rfl _ _ 25 rfl w.heap.size 44 i0 _ 5 48 Try.underlying25 hi0 hz0 hz1 hz2 rfl (by decide) _ _ _ rfl (HH3.out.bs.own.alloc _) ⟨w3.heap.size, 0, none⟩ 1 1 [.int .i64 st, .int .i64 ln, .string ⟨#[]⟩, .int .i64 (0), .bool false] rfl rfl (World.news_of_block (heap_alloc_new w3 _)) (by simp [Value.oneCell']) (by unfold maxLen; omega) (by omega) (by simp; omega) ?_; intro v' w8 hown' hgrow _)
        have HX := Lib.hid (HH3.out.bs.grow hlt.2.1 hlt.2.2 (t := ⟨st, ln, ⟨#[]⟩, 0, false⟩) hown' hgrow)
        clear hown' hgrow
        go_roundw
        case rel => exact ⟨k - 1, st + ln, en, _, by omega, by go_num, rfl, rfl, by rw [List.length_append]; show ts.length + 1 + (k - 1) ≤ 7; omega, by omega, by rw [List.length_append]; show st + ln ≤ 5 * ((ts.length + 1 : Nat) : Int); omega, by omega, by rw [List.length_append]; show en ≤ 8 + 5 * ((ts.length + 1 : Nat) : Int); omega, HX.out⟩
        case measure => simp [intOf]; omega
      · have q0 : (y == 0) = false := beq_eq_false_iff_ne.2 (by omega)
        have q1 : (y == 1) = false := beq_eq_false_iff_ne.2 (by omega)
        have hzc := HH3.out.bs.onl.size
        go_wp2_with fail
        refine (srcWord_any B sb _ 3 3 [⟨#[97]⟩, ⟨#[97]⟩, ⟨#[98]⟩] _ (HH3.out.bs.src.below ((Below.refl _ _).al _)) (fun _ => True) (by omega) (by omega) (texts_reads w3 [⟨#[97]⟩, ⟨#[97]⟩, ⟨#[98]⟩] (by decide)) (fun ad e => by injection e with e; rw [← e]; show w3.heap.size ≠ sb; omega) (fun _ _ => trivial)).mono ?_
        rintro e w4 ⟨on, _, rfl, hs4, ho4⟩
        have HH4 := Lib.hid ((HH3.out.below ((Below.refl _ _).al _)).srcd hlt.2.1 hs4 ho4)
        clear hs4 ho4
        go_wp2_with fail
        refine (srcN_any B sb 9 w4 HH4.out.bs.src (by omega) (by omega)).mono ?_
        rintro e w5 ⟨of, ⟨ho1, ho2⟩, rfl, hs5, ho5⟩
        have HH5 := Lib.hid (HH4.out.srcd hlt.2.1 hs5 ho5)
        clear hs5 ho5 HH4
        have e0 : w5.cell? ⟨w2.heap.size, 0, none⟩ = some (.int .i64 st) := by rw [HH5.out.bt.cell]; rfl
        have e1 : w5.cell? ⟨w2.heap.size, 1, none⟩ = some (.int .i64 ln) := by rw [HH5.out.bt.cell]; rfl
        have e2 : w5.cell? ⟨w2.heap.size, 2, none⟩ = some (.string ⟨#[]⟩) := by rw [HH5.out.bt.cell]; rfl
        have e3 : w5.cell? ⟨w2.heap.size, 3, none⟩ = some (.int .i64 (0)) := by rw [HH5.out.bt.cell]; rfl
        have e4 : w5.cell? ⟨w2.heap.size, 4, none⟩ = some (.bool false) := by rw [HH5.out.bt.cell]; rfl
        have f2 := HH5.out.bt.frozen 2
        have f3 := HH5.out.bt.frozen 3
        have f4 := HH5.out.bt.frozen 4
        have HH6 := Lib.hid ((HH5.out.set_ (t' := ⟨st, ln, on, 0, false⟩) hlt.2.1 hlt.2.2 2 (.string on) rfl).set_ (t' := ⟨st, ln, on, of, false⟩) hlt.2.1 hlt.2.2 3 (.int .i64 of) rfl)
        go_wp2_with fail
        refine (srcN_any B sb 2 _ HH6.out.bs.src (by omega) (by omega)).mono ?_
        rintro e w6 ⟨z, ⟨hz3, hz4⟩, rfl, hs6, ho6⟩
        have HH7 := Lib.hid (HH6.out.srcd hlt.2.1 hs6 ho6)
        have hzc6 := HH7.out.bs.onl.size
        clear hs6 ho6 HH6 HH5 e0 e1 e2 e3 e4 f2 f3 f4
        rcases (show z = 0 ∨ z = 1 by omega) with rfl | rfl
        · skip
          have e0 : w6.cell? ⟨w2.heap.size, 0, none⟩ = some (.int .i64 st) := by rw [HH7.out.bt.cell]; rfl
          have e1 : w6.cell? ⟨w2.heap.size, 1, none⟩ = some (.int .i64 ln) := by rw [HH7.out.bt.cell]; rfl
          have e2 : w6.cell? ⟨w2.heap.size, 2, none⟩ = some (.string on) := by rw [HH7.out.bt.cell]; rfl
          have e3 : w6.cell? ⟨w2.heap.size, 3, none⟩ = some (.int .i64 (of)) := by rw [HH7.out.bt.cell]; rfl
          have e4 : w6.cell? ⟨w2.heap.size, 4, none⟩ = some (.bool false) := by rw [HH7.out.bt.cell]; rfl
          have f2 := HH7.out.bt.frozen 2
          have f3 := HH7.out.bt.frozen 3
          have f4 := HH7.out.bt.frozen 4
          have HH8 := Lib.hid (HH7.out.set_ (t' := ⟨st, ln, on, en, false⟩) hlt.2.1 hlt.2.2 3 (.int .i64 en) rfl)
          have HBN := Lib.hid (setcell_new w6 ⟨w2.heap.size, 3, none⟩ (.int .i64 en))
          have hzc := HH3.out.bs.onl.size
          go_wp2_with (at_builtin; refine wpList_append_own _ rfl _ _ 25 rfl w.heap.size 44 i0 _ 5 48 Try.underlying25 hi0 hz0 hz1 hz2 rfl (by decide) _ _ _ rfl (HH8.out.bs.own.alloc _) ⟨w6.heap.size, 0, none⟩ 1 1 [.int .i64 st, .int .i64 ln, .string on, .int .i64 (en), .bool false] rfl rfl (World.news_of_block (HBN.out _)) (by simp [Value.oneCell']) (by unfold maxLen; omega) (by omega) (by simp; omega) ?_; intro v' w8 hown' hgrow _)
          have HX := Lib.hid (HH8.out.bs.grow hlt.2.1 hlt.2.2 (t := ⟨st, ln, on, en, false⟩) hown' hgrow)
          clear hown' hgrow
          go_roundw
          case rel => exact ⟨k - 1, st + ln, (en + ln), _, by omega, by go_num, rfl, rfl, by rw [List.length_append]; show ts.length + 1 + (k - 1) ≤ 7; omega, by omega, by rw [List.length_append]; show st + ln ≤ 5 * ((ts.length + 1 : Nat) : Int); omega, by omega, by rw [List.length_append]; show (en + ln) ≤ 8 + 5 * ((ts.length + 1 : Nat) : Int); omega, HX.out⟩
          case measure => simp [intOf]; omega
        · skip
          have e0 : w6.cell? ⟨w2.heap.size, 0, none⟩ = some (.int .i64 st) := by rw [HH7.out.bt.cell]; rfl
          have e1 : w6.cell? ⟨w2.heap.size, 1, none⟩ = some (.int .i64 ln) := by rw [HH7.out.bt.cell]; rfl
          have e2 : w6.cell? ⟨w2.heap.size, 2, none⟩ = some (.string on) := by rw [HH7.out.bt.cell]; rfl
          have e3 : w6.cell? ⟨w2.heap.size, 3, none⟩ = some (.int .i64 (of)) := by rw [HH7.out.bt.cell]; rfl
          have e4 : w6.cell? ⟨w2.heap.size, 4, none⟩ = some (.bool false) := by rw [HH7.out.bt.cell]; rfl
          have f2 := HH7.out.bt.frozen 2
          have f3 := HH7.out.bt.frozen 3
          have f4 := HH7.out.bt.frozen 4
          have hzc := HH3.out.bs.onl.size
          go_wp2_with (at_builtin; refine wpList_append_own _ rfl _ _ 25 rfl w.heap.size 44 i0 _ 5 48 Try.underlying25 hi0 hz0 hz1 hz2 rfl (by decide) _ _ _ rfl (HH7.out.bs.own.alloc _) ⟨w6.heap.size, 0, none⟩ 1 1 [.int .i64 st, .int .i64 ln, .string on, .int .i64 (of), .bool false] rfl rfl (World.news_of_block (heap_alloc_new w6 _)) (by simp [Value.oneCell']) (by unfold maxLen; omega) (by omega) (by simp; omega) ?_; intro v' w8 hown' hgrow _)
          have HX := Lib.hid (HH7.out.bs.grow hlt.2.1 hlt.2.2 (t := ⟨st, ln, on, of, false⟩) hown' hgrow)
          clear hown' hgrow
          go_roundw
          case rel => exact ⟨k - 1, st + ln, (of + ln), _, by omega, by go_num, rfl, rfl, by rw [List.length_append]; show ts.length + 1 + (k - 1) ≤ 7; omega, by omega, by rw [List.length_append]; show st + ln ≤ 5 * ((ts.length + 1 : Nat) : Int); omega, by omega, by rw [List.length_append]; show (of + ln) ≤ 8 + 5 * ((ts.length + 1 : Nat) : Int); omega, HX.out⟩
          case measure => simp [intOf]; omega
    · obtain rfl : k = 0 := by omega
      by_cases hts : ts = []
      · subst hts
        obtain ⟨A3, c3, hv, htr⟩ := own_trow HBS.out.own
        subst hv
        clear htr
        go_wp2_with fail
        go_ret
        exact ⟨_, [], rfl, by decide, HBS.out⟩
      · have hpos := List.length_pos_iff.2 hts
        obtain ⟨A3, c3, hv, htr⟩ := own_trow HBS.out.own
        subst hv
        obtain ⟨g3, t0, rfl, _, _, _⟩ := htr.at_ (k := 0) hpos
        have j1 : 0 < (ts.length : Int) := by omega
        clear htr hts
        go_wp2_with fail
        refine (srcN_any B sb 6 wr HBS.out.src (by omega) (by omega)).mono ?_
        rintro e w2 ⟨y, ⟨hy1, hy2⟩, rfl, hs2, ho2⟩
        have HB2 := Lib.hid (HBS.out.srcd hlt.2.1 hs2 ho2)
        clear hs2 ho2 HBS
        by_cases hy0 : y = 0
        · subst hy0
          go_wp2_with fail
          refine (srcN_any B sb (ts.length : Int) w2 HB2.out.src (by omega) (by omega)).mono ?_
          rintro e w3 ⟨i, ⟨hi1, hi2⟩, rfl, hs3, ho3⟩
          obtain ⟨i, rfl⟩ := Int.eq_ofNat_of_zero_le hi1
          have HB3 := Lib.hid (HB2.out.srcd hlt.2.1 hs3 ho3)
          clear hs3 ho3 HB2
          go_wp2_with fail
          refine (srcN_any B sb 5 w3 HB3.out.src (by omega) (by omega)).mono ?_
          rintro e w4 ⟨z, ⟨hz3, hz4⟩, rfl, hs4, ho4⟩
          have HB4 := Lib.hid (HB3.out.srcd hlt.2.1 hs4 ho4)
          obtain ⟨A5, c5, e5, htr⟩ := own_trow HB4.out.own
          obtain ⟨g5, t, e6, hg5, ht, h5⟩ := htr.at_ (k := i) (by omega)
          injection e5 with e5 _ e7
          subst e7
          rw [← e5] at e6
          injection e6 with e6
          injection e6 with e6
          subst e6
          have HT := Lib.hid ht
          obtain ⟨st, ln, on, of, fl⟩ := t
          obtain ⟨a0, a1, a2, a3, a4⟩ := h5
          simp only at a0 a1 a2 a3 a4
          have f0 := HB4.out.own.frozenAt (i * 5)
          have f1 := HB4.out.own.frozenAt (i * 5 + 1)
          have f2 := HB4.out.own.frozenAt (i * 5 + 2)
          have f3 := HB4.out.own.frozenAt (i * 5 + 3)
          have f4 := HB4.out.own.frozenAt (i * 5 + 4)
          have hil : ts.length ≤ 7 := by omega
          clear hs4 ho4 HB3 htr ht hg5 e5
          rcases (show z = 0 ∨ z = 1 ∨ z = 2 ∨ z = 3 ∨ z = 4 by omega) with rfl | rfl | rfl | rfl | rfl
          · go_wp2_with fail
            go_ret
            exact ⟨_, ts.set i ⟨wrap64 (st + 1), ln, on, of, fl⟩, rfl, by rw [List.length_set]; exact hil, HB4.out.put (t' := ⟨wrap64 (st + 1), ln, on, of, fl⟩) hlt.2.1 hlt.2.2 HT.out (j := 0) (by omega) (.int .i64 (wrap64 (st + 1))) rfl⟩
          · go_wp2_with fail
            have hzc := HB4.out.onl.size
            have HI := Lib.hid (ints_reads w4 [0, -1, 16777216, 16777217] (by decide))
            refine (srcPick_any B sb _ 4 4 [0, -1, 16777216, 16777217] _ (HB4.out.src.below ((Below.refl _ _).al _)) (fun _ => True) (by omega) (by omega) HI.out (fun ad e => by injection e with e; rw [← e]; show w4.heap.size ≠ sb; omega) (fun _ _ => trivial)).mono ?_
            rintro e w5 ⟨x, _, rfl, hs5, ho5⟩
            have HB5 := Lib.hid ((HB4.out.below ((Below.refl _ _).al _)).srcd hlt.2.1 hs5 ho5)
            have f1 := HB5.out.own.frozenAt (i * 5 + 1)
            have f3 := HB5.out.own.frozenAt (i * 5 + 3)
            obtain ⟨A5, c5, e5, htr⟩ := own_trow HB5.out.own
            obtain ⟨g5, t, e6, hg5, ht, h5⟩ := htr.at_ (k := i) (by omega)
            injection e5 with e5 _ e7
            subst e7
            rw [← e5] at e6
            injection e6 with e6
            injection e6 with e6
            subst e6
            have a1 := h5.c1
            have a3 := h5.c3
            clear hs5 ho5 HI a0 a2 a4 f0 f2 f4 htr e5 hg5 ht h5
            go_wp2_with fail
            go_ret
            exact ⟨_, ts.set i ⟨st, x, on, of, fl⟩, rfl, by rw [List.length_set]; exact hil, HB5.out.put (t' := ⟨st, x, on, of, fl⟩) hlt.2.1 hlt.2.2 HT.out (j := 1) (by omega) (.int .i64 x) rfl⟩
          · go_wp2_with fail
            go_ret
            exact ⟨_, ts.set i ⟨st, ln, on, of, !fl⟩, rfl, by rw [List.length_set]; exact hil, HB4.out.put (t' := ⟨st, ln, on, of, !fl⟩) hlt.2.1 hlt.2.2 HT.out (j := 4) (by omega) (.bool !fl) rfl⟩
          · go_wp2_with fail
            have hzc := HB4.out.onl.size
            have HI := Lib.hid (ints_reads w4 [-1, 16777216, 16777213, 16777217] (by decide))
            refine (srcPick_any B sb _ 4 4 [-1, 16777216, 16777213, 16777217] _ (HB4.out.src.below ((Below.refl _ _).al _)) (fun _ => True) (by omega) (by omega) HI.out (fun ad e => by injection e with e; rw [← e]; show w4.heap.size ≠ sb; omega) (fun _ _ => trivial)).mono ?_
            rintro e w5 ⟨x, _, rfl, hs5, ho5⟩
            have HB5 := Lib.hid ((HB4.out.below ((Below.refl _ _).al _)).srcd hlt.2.1 hs5 ho5)
            have f1 := HB5.out.own.frozenAt (i * 5 + 1)
            have f3 := HB5.out.own.frozenAt (i * 5 + 3)
            obtain ⟨A5, c5, e5, htr⟩ := own_trow HB5.out.own
            obtain ⟨g5, t, e6, hg5, ht, h5⟩ := htr.at_ (k := i) (by omega)
            injection e5 with e5 _ e7
            subst e7
            rw [← e5] at e6
            injection e6 with e6
            injection e6 with e6
            subst e6
            have a1 := h5.c1
            have a3 := h5.c3
            clear hs5 ho5 HI a0 a2 a4 f0 f2 f4 htr e5 hg5 ht h5
            go_wp2_with fail
            go_ret
            exact ⟨_, ts.set i ⟨st, ln, on, x, fl⟩, rfl, by rw [List.length_set]; exact hil, HB5.out.put (t' := ⟨st, ln, on, x, fl⟩) hlt.2.1 hlt.2.2 HT.out (j := 3) (by omega) (.int .i64 x) rfl⟩
          · go_wp2_with fail
            go_ret
            exact ⟨_, ts.set i ⟨st, ln, ⟨#[]⟩, of, fl⟩, rfl, by rw [List.length_set]; exact hil, HB4.out.put (t' := ⟨st, ln, ⟨#[]⟩, of, fl⟩) hlt.2.1 hlt.2.2 HT.out (j := 2) (by omega) (.string ⟨#[]⟩) rfl⟩
        · have q0 : (y == 0) = false := beq_eq_false_iff_ne.2 hy0
          go_wp2_with fail
          go_ret
          exact ⟨_, ts, rfl, by omega, HB2.out⟩
end Go.Proofs.Ytkifopombddcjaa
