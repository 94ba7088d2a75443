/- CachemapSecond: plain, and the walk (printed by genSecond.py). -/
import Derived.Test.YtmmdckijokiomaaState
namespace Go.Proofs.Ytmmdckijokiomaa
open Go.RowKit

theorem find_no {l : List Sl} {b : Int} (h : ∀ t ∈ l, t.block ≠ b) : findI l b = -1 := by
  unfold findI
  rw [findIdx_none (fun t ht => by unfold isB; rw [decide_eq_false (h t ht)]; simp)]
  rfl
theorem miss_new {st : St} {b : Int} (h : VP st) (hb : keyB b = true) (hs : ∀ t ∈ st.slots, t.block ≠ b) (hm : b ∉ st.missed) : missR st b = (⟨st.slots, st.clock, pushM st.missed b⟩, false, 0) := by
  unfold missR
  rw [if_neg (by rw [valid_iff.2 h]; decide), if_neg (by rw [hb]; decide), if_neg (by rw [find_no hs]; decide), if_neg hm]
theorem miss_old {st : St} {b : Int} (h : VP st) (hb : keyB b = true) (hs : ∀ t ∈ st.slots, t.block ≠ b) (hm : b ∈ st.missed) : missR st b = (⟨st.slots, st.clock, withoutL st.missed b⟩, true, 0) := by
  unfold missR
  rw [if_neg (by rw [valid_iff.2 h]; decide), if_neg (by rw [hb]; decide), if_neg (by rw [find_no hs]; decide), if_pos hm]
/-- 100 was missed, then 200 .. -/
structure SecI (i : Nat) (st : St) : Prop where
  v : VP st
  s : ∀ t ∈ st.slots, t.block < 14
  m : ∃ pr, st.missed = pr ++ 100 :: (List.range i).map (fun (j : Nat) => (200 : Int) + (j : Int)) ∧ ∀ x ∈ pr, x < 14
theorem sec_first {st : St} (h : VPP P14 st) : ∃ st2, missR st 100 = (st2, false, 0) ∧ SecI 0 st2 := by
  have hm : (100 : Int) ∉ st.missed := fun hx => by have : (100 : Int) < 14 := h.m _ hx; omega
  have hs : ∀ t ∈ st.slots, t.block ≠ 100 := fun t ht e => by have : t.block < 14 := h.s t ht; omega
  have he := miss_new h.v (b := 100) (by decide) hs hm
  refine ⟨_, he, ?_⟩
  have hk := miss_keep (P := fun _ => True) (b := 100) ⟨h.v, fun _ _ => trivial, fun _ _ => trivial⟩ trivial (by rw [he])
  rw [he] at hk
  refine ⟨hk.1.v, h.s, ?_⟩
  show ∃ pr, pushM st.missed 100 = _ ∧ _
  unfold pushM
  split
  · rename_i hl
    rw [List.length_append] at hl
    refine ⟨st.missed.drop 1, ?_, fun x hx => h.m x (List.mem_of_mem_drop hx)⟩
    rw [List.drop_append_of_le_length (by simp at hl; omega)]
    rfl
  · exact ⟨st.missed, rfl, h.m⟩
theorem sec_next {i : Nat} {st : St} (hi : i < 7) (h : SecI i st) : ∃ st2, missR st (200 + (i : Int)) = (st2, false, 0) ∧ SecI (i + 1) st2 := by
  obtain ⟨pr, hp, hlt⟩ := h.m
  have hm : (200 + (i : Int)) ∉ st.missed := fun hx => by
    rw [hp] at hx
    rcases List.mem_append.1 hx with hx | hx
    · have := hlt _ hx; omega
    · rcases List.mem_cons.1 hx with hx | hx
      · omega
      · obtain ⟨j, hj, e⟩ := List.mem_map.1 hx
        have := List.mem_range.1 hj
        omega
  have hs : ∀ t ∈ st.slots, t.block ≠ 200 + (i : Int) := fun t ht e => by have := h.s t ht; omega
  have he := miss_new h.v (b := 200 + (i : Int)) (by unfold keyB; rw [decide_eq_true (by omega), decide_eq_true (by omega)]; rfl) hs hm
  refine ⟨_, he, ?_⟩
  have hk := miss_keep (P := fun _ => True) (b := 200 + (i : Int)) ⟨h.v, fun _ _ => trivial, fun _ _ => trivial⟩ trivial (by rw [he])
  rw [he] at hk
  refine ⟨hk.1.v, h.s, ?_⟩
  have hr : (List.range (i + 1)).map (fun (j : Nat) => (200 : Int) + (j : Int)) = (List.range i).map (fun (j : Nat) => (200 : Int) + (j : Int)) ++ [200 + (i : Int)] := by
    rw [List.range_succ, List.map_append]; rfl
  show ∃ pr, pushM st.missed _ = _ ∧ _
  unfold pushM
  split
  · rename_i hl
    rw [hp] at hl ⊢
    simp at hl
    cases pr with
    | nil => simp at hl; omega
    | cons x pr =>
      refine ⟨pr, ?_, fun y hy => hlt y (List.mem_cons_of_mem _ hy)⟩
      rw [hr]
      simp
  · refine ⟨pr, ?_, hlt⟩
    rw [hp, hr]
    simp
theorem sec_last {i : Nat} {st : St} (h : SecI i st) : ∃ st2, missR st 100 = (st2, true, 0) := by
  obtain ⟨pr, hp, hlt⟩ := h.m
  exact ⟨_, miss_old h.v (by decide) (fun t ht e => by have := h.s t ht; omega) (by rw [hp]; simp)⟩

set_option maxRecDepth 100000 in
set_option maxHeartbeats 8000000 in
theorem second_walk (A : Option Addr) (m c : Nat) (l : List Int) (A2 : Option Addr) (m2 c2 : Nat) (W : World) (hmc : m ≤ c) (hcm : c ≤ maxLen) (hr : Reads W W.heap.size 1 A m (I l)) :
    Calls Try.prog 6 #[.slice A m c, .slice A2 m2 c2] W (Ret (.bool true) W) := by
  have HN := Lib.hid (srcNew_any A m c l W hmc hcm hr)
  clear hr hmc hcm
  go_enter Try.func6, Try.ntmps6
  go_wp2_with fail
  refine HN.out.mono ?_
  rintro e w1 ⟨rfl, hs1, hb1⟩
  have HS1 := Lib.hid hs1
  have HB1 := Lib.hid hb1
  clear hs1 hb1 HN
  go_wp2_with fail
  refine (srcN_any W.heap.size W.heap.size 20 w1 HS1.out (by omega) (by omega)).mono ?_
  rintro e w2 ⟨x, ⟨hx0, hx1⟩, rfl, hs2, ho2⟩
  have HB2 := Lib.hid (HB1.out.trans (ho2.below HS1.out.lt.2.2 (fun k e => by rw [e]; exact Nat.le_refl _)))
  have HS2 := Lib.hid hs2
  clear hs2 ho2
  go_wp2_with fail
  refine (state_any (steps := x) HS2.out hx0 (by omega)).mono ?_
  rintro e w3 ⟨st, a3, b3, rfl, hs3, ht3, hk3, hl3, hsr3, ho3⟩
  obtain ⟨A3, n3, c3, D3, m3, d3, rfl, rfl⟩ := hs3.form_
  have HB3 := Lib.hid ((HB2.out.trans (ho3.below HS2.out.lt.2.2 (fun k e => by rw [e]; exact Nat.le_refl _))).al (.cells #[.slice A3 n3 c3, .int .i64 st.clock, .slice D3 m3 d3] 25))
  have HA3 := Lib.hid (At.new_ hs3 ht3)
  have hsz : W.heap.size ≤ w3.heap.size := Nat.le_trans HS2.out.lt.2.2 ho3.size
  obtain ⟨st4, hr4, hi4⟩ := sec_first hk3
  have HC4 := Lib.hid (hr4 ▸ miss_any (b := 100) HA3.out.sv)
  have HI4 := Lib.hid hi4
  clear hs3 ht3 hk3 hl3 hsr3 ho3 hr4 hi4
  go_wp2_with fail
  refine HC4.out.mono ?_
  rintro e w4 ⟨a4, b4, rfl, hs4, hb4, ht4⟩
  obtain ⟨A4, n4, c4, D4, m4, d4, rfl, rfl⟩ := hs4.form_
  have HO4 := Lib.hid (HA3.out.up hb4)
  have HA4 := Lib.hid (HO4.out.set hs4 ht4)
  have HB4 := Lib.hid (put3_bel (a := .slice A4 n4 c4) (c := .int .i64 st4.clock) (b := .slice D4 m4 d4) (HB3.out.next hb4) hsz)
  obtain ⟨x0, x1, x2, x3, x4, x5⟩ := HO4.out.c
  clear hs4 hb4 ht4 HC4
  go_wp2_with fail
  go_loopw [10] (fun v wr => ∃ (i : Nat) (st : St) (a b : Value), i ≤ 7 ∧ v = .int .i64 (i : Int) ∧ SecI i st ∧ At wr w3.heap.size st a b ∧ Below W.heap.size W wr) (fun v _ => 7 - (intOf v).toNat)
  case atStart => exact ⟨0, st4, _, _, by omega, rfl, HI4.out, HA4.out, HB4.out⟩
  case round =>
    obtain ⟨i, st5, a5, b5, hi, rfl, hsec, hat, hbel⟩ := hrel
    obtain ⟨A5, n5, c5, D5, m5, d5, rfl, rfl⟩ := hat.sv.form_
    have HI := Lib.hid hsec
    have HA := Lib.hid hat
    have HB := Lib.hid hbel
    clear hsec hat hbel HA4 HB4 HI4 HO4 x0 x1 x2 x3 x4 x5
    obtain ⟨x0, x1, x2, x3, x4, x5⟩ := HA.out.c
    by_cases hlt : (i : Int) < (m2 : Int) ∧ i < 7
    · obtain ⟨j0, j1⟩ := hlt
      have j2 : (i : Int) < 7 := by omega
      obtain ⟨st6, hr6, hi6⟩ := sec_next j1 HI.out
      have HC6 := Lib.hid (hr6 ▸ miss_any (b := 200 + (i : Int)) HA.out.sv)
      have HI6 := Lib.hid hi6
      clear hr6 hi6
      have hw : IntKind.i64.wrap (200 + (i : Int)) = 200 + (i : Int) := IntWalk.i64_in _ (by omega)
      go_wp2_with fail
      refine HC6.out.mono ?_
      rintro e w6 ⟨a6, b6, rfl, hs6, hb6, ht6⟩
      obtain ⟨A6, n6, c6, D6, m6, d6, rfl, rfl⟩ := hs6.form_
      have HP6 := Lib.hid (HA.out.up hb6)
      have hg6 : w3.heap.size < w6.heap.size := HP6.out.blk.lt
      have HA6 := Lib.hid ((HP6.out.set hs6 ht6).up ((Below.refl _ _).al (.cells #[.slice A6 n6 c6, .int .i64 st6.clock, .slice D6 m6 d6] 25)))
      have HB6 := Lib.hid ((put3_bel (a := .slice A6 n6 c6) (c := .int .i64 st6.clock) (b := .slice D6 m6 d6) (HB.out.next hb6) hsz).al (.cells #[.slice A6 n6 c6, .int .i64 st6.clock, .slice D6 m6 d6] 25))
      clear hs6 hb6 ht6 HC6 x0 x1 x2 x3 x4 x5
      obtain ⟨x0, x1, x2, x3, x4, x5⟩ := HP6.out.c
      go_wp2_with fail
      go_roundw
      case rel => exact ⟨i + 1, st6, _, _, by omega, by go_num, HI6.out, HA6.out, HB6.out⟩
      case measure => simp [intOf]; omega
    · obtain ⟨st6, hr6⟩ := sec_last HI.out
      have HC6 := Lib.hid (hr6 ▸ miss_any (b := 100) HA.out.sv)
      clear hr6
      have hcase : (m2 : Int) ≤ (i : Int) ∨ ((i : Int) < (m2 : Int) ∧ (7 : Int) ≤ (i : Int)) := by
        by_cases h1 : (i : Int) < (m2 : Int)
        · exact .inr ⟨h1, by have : ¬ i < 7 := fun h2 => hlt ⟨h1, h2⟩; omega⟩
        · exact .inl (by omega)
      clear hlt
      rcases hcase with j0 | ⟨j0, j1⟩
      all_goals
        go_wp2_with fail
        refine HC6.out.mono ?_
        rintro e w6 ⟨a6, b6, rfl, hs6, hb6, ht6⟩
        obtain ⟨A6, n6, c6, D6, m6, d6, rfl, rfl⟩ := hs6.form_
        have HB6 := Lib.hid (HB.out.next hb6)
        clear hs6 hb6 ht6 HC6 x0 x1 x2 x3 x4 x5
        go_wp2_with fail
        refine (awake_any w6).mono ?_
        rintro e w7 ⟨rfl, hb7⟩
        have HB7 := Lib.hid (HB6.out.next hb7)
        clear hb7
        go_wp2_with fail
        go_ret
        exact ⟨rfl, HB7.out⟩
end Go.Proofs.Ytmmdckijokiomaa
