/- The reference's Find; New of both; Same. -/
import Derived.Test.YtmmdckijokiomaaVictim2
namespace Go.Proofs.Ytmmdckijokiomaa
open Go.RowKit

set_option maxRecDepth 100000 in
set_option maxHeartbeats 8000000 in
theorem rfind_any {st : St} {a bb : Value} {b : Int} {w : World} (h : SV w w.heap.size st a bb) {r : Int} (hr : findB st b = r) :
    Calls Try.prog 19 #[.agg #[a, .int .i64 st.clock, bb], .int .i64 b] w (Ret (.int .i64 r) w) := by
  have he := E1.mk_ w a (.int .i64 st.clock) bb
  have hu := h.up he.bel
  have HVA := Lib.hid (fun (wr : World) (hb : Below (w.alloc (.cells #[a, .int .i64 st.clock, bb] 25)).heap.size (w.alloc (.cells #[a, .int .i64 st.clock, bb] 25)) wr) => rvalid_any (hu.up hb))
  have HE := Lib.hid he
  cases hv : validB st with
  | false =>
    have HV := Lib.hid (valid2 hv)
    obtain rfl : r = -1 := by rw [← hr]; unfold findB; rw [hv]; rfl
    obtain ⟨slots, clock, missed⟩ := st
    obtain ⟨⟨A1, c1, e1, hs1, _⟩, ⟨A2, c2, e2, hr2, _⟩⟩ := h
    subst e1 e2
    rw [HV.out] at HVA
    clear he hu hv hs1 hr2 hr
    by_cases h0 : slots.length = 0
    · have i0 : ¬ 0 < (slots.length : Int) := by omega
      clear h0
      go_enter Try.func19, Try.ntmps19
      go_wp2_with fail
      go_loopw [5] (fun v wr => v = .int .i64 0 ∧ E1 w wr (.slice A1 slots.length c1) (.int .i64 clock) (.slice A2 missed.length c2)) (fun v _ => slots.length - (intOf v).toNat)
      case atStart => exact ⟨rfl, HE.out⟩
      case round =>
        obtain ⟨rfl, he⟩ := hrel
        have HE5 := Lib.hid he
        obtain ⟨x0, x1, x2⟩ := HE5.out.c
        clear he
        go_wp2_with fail
        go_ret
        exact ⟨rfl, HE5.out.bel⟩
    · have i0 : 0 < (slots.length : Int) := by omega
      clear h0
      go_enter Try.func19, Try.ntmps19
      go_wp2_with fail
      go_loopw [5] (fun v wr => v = .int .i64 0 ∧ E1 w wr (.slice A1 slots.length c1) (.int .i64 clock) (.slice A2 missed.length c2) ∧ Below (w.alloc (.cells #[.slice A1 slots.length c1, .int .i64 clock, .slice A2 missed.length c2] 25)).heap.size (w.alloc (.cells #[.slice A1 slots.length c1, .int .i64 clock, .slice A2 missed.length c2] 25)) wr) (fun v _ => slots.length - (intOf v).toNat)
      case atStart => exact ⟨rfl, HE.out, Below.refl _ _⟩
      case round =>
        obtain ⟨rfl, he, hb0⟩ := hrel
        have HE5 := Lib.hid he
        have HB0 := Lib.hid hb0
        obtain ⟨x0, x1, x2⟩ := HE5.out.c
        clear he hb0
        go_wp2_with fail
        refine (HVA.out _ HB0.out).mono ?_
        rintro e w5 ⟨rfl, hb5⟩
        have HE6 := Lib.hid (HE5.out.up hb5)
        clear hb5
        go_wp2_with fail
        go_ret
        exact ⟨rfl, HE6.out.bel⟩
  | true =>
    have HV := Lib.hid (valid0 hv)
    have hf : findI st.slots b = r := by rw [← hr]; unfold findB; rw [if_pos hv]
    have hlen := valid_len hv
    obtain ⟨slots, clock, missed⟩ := st
    obtain ⟨⟨A1, c1, e1, hs1, _⟩, ⟨A2, c2, e2, hr2, _⟩⟩ := h
    subst e1 e2
    rw [HV.out] at HVA
    have HS1 := Lib.hid hs1
    have HF := Lib.hid hf
    clear he hu hv hs1 hr2 hr hf
    go_enter Try.func19, Try.ntmps19
    go_wp2_with fail
    go_loopw [5] (fun v wr => ∃ k : Nat, k ≤ slots.length ∧ v = .int .i64 (k : Int) ∧ (∀ x ∈ slots.take k, isB b x = false) ∧ E1 w wr (.slice A1 slots.length c1) (.int .i64 clock) (.slice A2 missed.length c2) ∧ Below (w.alloc (.cells #[.slice A1 slots.length c1, .int .i64 clock, .slice A2 missed.length c2] 25)).heap.size (w.alloc (.cells #[.slice A1 slots.length c1, .int .i64 clock, .slice A2 missed.length c2] 25)) wr) (fun v _ => slots.length - (intOf v).toNat)
    case atStart => exact ⟨0, by omega, rfl, by simp, HE.out, Below.refl _ _⟩
    case round =>
      obtain ⟨k, hk, rfl, hx, he, hb0⟩ := hrel
      have HX := Lib.hid hx
      have HE5 := Lib.hid he
      have HB0 := Lib.hid hb0
      obtain ⟨x0, x1, x2⟩ := HE5.out.c
      clear hx he hb0
      by_cases hlt : k < slots.length
      · have j0 : (k : Int) < (slots.length : Int) := by omega
        go_wp2_with fail
        refine (HVA.out _ HB0.out).mono ?_
        rintro e w5 ⟨rfl, hb5⟩
        have HE6 := Lib.hid (HE5.out.up hb5)
        have HB6 := Lib.hid (HB0.out.next hb5)
        clear hb5 x0 x1 x2
        obtain ⟨x0, x1, x2⟩ := HE6.out.c
        obtain ⟨g, t, rfl, hg, ht, hf⟩ := (HS1.out.below HE6.out.bel (Nat.le_refl _)).at_ hlt
        have HT := Lib.hid ht
        obtain ⟨a0, a1, a2, a3⟩ := hf
        obtain ⟨va, di, bl, sp⟩ := t
        simp only at a0 a2
        clear ht hg
        cases va with
        | false =>
          have HN := Lib.hid (none_next HT.out HX.out (show isB b ⟨false, di, bl, sp⟩ = false from rfl))
          go_wp2_with fail
          go_roundw
          case rel => exact ⟨k + 1, by omega, by go_num, HN.out, HE6.out, HB6.out⟩
          case measure => simp [intOf]; omega
        | true =>
          by_cases hb : bl = b
          · subst hb
            have HE9 := Lib.hid (show r = (k : Int) by rw [← HF.out]; unfold findI; rw [findIdx_at HT.out HX.out (show isB bl ⟨true, di, bl, sp⟩ = true by unfold isB; simp)]; rfl)
            go_wp2_with fail
            go_ret
            exact ⟨by rw [HE9.out]; rfl, HE6.out.bel⟩
          · have q : (bl == b) = false := beq_eq_false_iff_ne.2 hb
            have HN := Lib.hid (none_next HT.out HX.out (show isB b ⟨true, di, bl, sp⟩ = false by unfold isB; simp [hb]))
            clear hb
            go_wp2_with fail
            go_roundw
            case rel => exact ⟨k + 1, by omega, by go_num, HN.out, HE6.out, HB6.out⟩
            case measure => simp [intOf]; omega
      · obtain rfl : k = slots.length := by omega
        have HE9 := Lib.hid (show r = -1 by rw [← HF.out]; unfold findI; rw [findIdx_none (by have := HX.out; rw [List.take_length] at this; exact this)]; rfl)
        go_wp2_with fail
        go_ret
        exact ⟨by rw [HE9.out]; rfl, HE5.out.bel⟩

def newR (n : Int) : St × Int := if n < 1 ∨ 1024 < n then (St.none_, 1) else (⟨List.replicate n.toNat sz, 0, []⟩, 0)
theorem entry1 (w : World) : Blk (w.alloc (.cells #[.slice none 0 0, .int .i64 0, .slice none 0 0] 25)) w.heap.size 25 #[.slice none 0 0, .int .i64 0, .slice none 0 0] := Blk.new _ _ _
set_option maxRecDepth 100000 in
set_option maxHeartbeats 8000000 in
theorem new_any (n : Int) (w : World) : Calls Try.prog 8 #[.int .i64 n] w (StRet (newR n) w) := by
  by_cases h : n < 1 ∨ 1024 < n
  · rw [show newR n = (St.none_, 1) by unfold newR; rw [if_pos h]]
    have HB := Lib.hid ((Below.refl w.heap.size w).al (.cells #[.slice none 0 0, .int .i64 0, .slice none 0 0] 25))
    rcases h with h | h
    · go_enter Try.func8, Try.ntmps8
      go_wp2_with fail
      exact bodyPost_ret (results_cell_tmp (q := 3) rfl _ _ w.heap.size _ _ _ rfl (entry1 w) Try.underlying25 rfl (by kernel_rfl)) rfl ⟨_, _, rfl, SV.nil_ _ _, HB.out, Typ.nil_ _⟩
    · have h0 : ¬ n < 1 := by omega
      go_enter Try.func8, Try.ntmps8
      go_wp2_with fail
      exact bodyPost_ret (results_cell_tmp (q := 3) rfl _ _ w.heap.size _ _ _ rfl (entry1 w) Try.underlying25 rfl (by kernel_rfl)) rfl ⟨_, _, rfl, SV.nil_ _ _, HB.out, Typ.nil_ _⟩
  · obtain ⟨m, rfl⟩ : ∃ m : Nat, n = (m : Int) := ⟨n.toNat, by omega⟩
    have h0 : ¬ (m : Int) < 1 := by omega
    have h1 : ¬ 1024 < (m : Int) := by omega
    have HRV := Lib.hid (show newR (m : Int) = (⟨List.replicate m sz, 0, []⟩, 0) by unfold newR; rw [if_neg h]; simp)
    rw [HRV.out]
    have hm : m ≤ 1024 := by omega
    obtain ⟨i4, hi4, hz40, hz41, hz42⟩ := info_parts slot_info
    have hmk4 := fun W => run_make_rowN (P := Try.prog) 23 51 i4 (.agg #[.bool false, .bool false, .int .i64 0, .int .i64 0]) Try.underlying23 hi4 hz40 .i64 .i64 m m (Nat.le_refl _) (by rw [hz42]; omega) (by omega) W
    simp only [hz41, Value.cells] at hmk4
    clear h hi4 hz40 hz41 hz42
    go_enter Try.func8, Try.ntmps8
    go_wp2_with fail
    have hrow := row_of_block (base := w.heap.size) (k := 4) (n := m) (w := ((w.alloc (.cells #[.slice (some ⟨w.heap.size + 1, 0, none⟩) m m, .int .i64 0, .slice none 0 0] 25)).alloc (.cells (madeCells #[.bool false, .bool false, .int .i64 0, .int .i64 0] (m * 4)) 51))) (g := w.heap.size + 1) (by
      have h := heap_alloc_new (w.alloc (.cells #[.slice (some ⟨w.heap.size + 1, 0, none⟩) m m, .int .i64 0, .slice none 0 0] 25)) (.cells (madeCells #[.bool false, .bool false, .int .i64 0, .int .i64 0] (m * 4)) 51)
      rw [show (w.alloc (.cells #[.slice (some ⟨w.heap.size + 1, 0, none⟩) m m, .int .i64 0, .slice none 0 0] 25)).heap.size = w.heap.size + 1 by simp] at h
      exact h) (by omega) (by unfold maxLen; omega) (by rw [size_madeCells])
    rw [made_slots] at hrow
    have hso : SO ((w.alloc (.cells #[.slice (some ⟨w.heap.size + 1, 0, none⟩) m m, .int .i64 0, .slice none 0 0] 25)).alloc (.cells (madeCells #[.bool false, .bool false, .int .i64 0, .int .i64 0] (m * 4)) 51)) w.heap.size ⟨List.replicate m sz, 0, []⟩ (.slice (some ⟨w.heap.size + 1, 0, none⟩) m m) (.slice none 0 0) :=
      ⟨by show World.ownsRow _ _ _ _ _ (List.replicate m sz).length _; rw [List.length_replicate]; exact hrow, World.ownsRow_nil _ _ _ _⟩
    exact bodyPost_ret (results_cell_tmp (q := 3) rfl _ _ w.heap.size _ _ _ rfl ((Blk.new _ _ _).alloc _) Try.underlying25 rfl (by kernel_rfl)) rfl ⟨_, _, rfl, hso.sv, ((Below.refl _ _).al _).al _, hso.typ⟩
set_option maxRecDepth 100000 in
set_option maxHeartbeats 8000000 in
theorem rnew_any (n : Int) (w : World) : Calls Try.prog 9 #[.int .i64 n] w (StRet (newR n) w) := by
  by_cases h : n < 1 ∨ 1024 < n
  · rw [show newR n = (St.none_, 1) by unfold newR; rw [if_pos h]]
    have HB := Lib.hid ((Below.refl w.heap.size w).al (.cells #[.slice none 0 0, .int .i64 0, .slice none 0 0] 25))
    rcases h with h | h
    · go_enter Try.func9, Try.ntmps9
      go_wp2_with fail
      exact bodyPost_ret (results_cell_tmp (q := 3) rfl _ _ w.heap.size _ _ _ rfl (entry1 w) Try.underlying25 rfl (by kernel_rfl)) rfl ⟨_, _, rfl, SV.nil_ _ _, HB.out, Typ.nil_ _⟩
    · have h0 : ¬ n < 1 := by omega
      go_enter Try.func9, Try.ntmps9
      go_wp2_with fail
      exact bodyPost_ret (results_cell_tmp (q := 3) rfl _ _ w.heap.size _ _ _ rfl (entry1 w) Try.underlying25 rfl (by kernel_rfl)) rfl ⟨_, _, rfl, SV.nil_ _ _, HB.out, Typ.nil_ _⟩
  · obtain ⟨m, rfl⟩ : ∃ m : Nat, n = (m : Int) := ⟨n.toNat, by omega⟩
    have h0 : ¬ (m : Int) < 1 := by omega
    have h1 : ¬ 1024 < (m : Int) := by omega
    have HRV := Lib.hid (show newR (m : Int) = (⟨List.replicate m sz, 0, []⟩, 0) by unfold newR; rw [if_neg h]; simp)
    rw [HRV.out]
    have hm : m ≤ 1024 := by omega
    obtain ⟨i4, hi4, hz40, hz41, hz42⟩ := info_parts slot_info
    have hmk4 := fun W => run_make_rowN (P := Try.prog) 23 51 i4 (.agg #[.bool false, .bool false, .int .i64 0, .int .i64 0]) Try.underlying23 hi4 hz40 .i64 .i64 m m (Nat.le_refl _) (by rw [hz42]; omega) (by omega) W
    simp only [hz41, Value.cells] at hmk4
    clear h hi4 hz40 hz41 hz42
    go_enter Try.func9, Try.ntmps9
    go_wp2_with fail
    have hrow := row_of_block (base := w.heap.size) (k := 4) (n := m) (w := ((w.alloc (.cells #[.slice (some ⟨w.heap.size + 1, 0, none⟩) m m, .int .i64 0, .slice none 0 0] 25)).alloc (.cells (madeCells #[.bool false, .bool false, .int .i64 0, .int .i64 0] (m * 4)) 51))) (g := w.heap.size + 1) (by
      have h := heap_alloc_new (w.alloc (.cells #[.slice (some ⟨w.heap.size + 1, 0, none⟩) m m, .int .i64 0, .slice none 0 0] 25)) (.cells (madeCells #[.bool false, .bool false, .int .i64 0, .int .i64 0] (m * 4)) 51)
      rw [show (w.alloc (.cells #[.slice (some ⟨w.heap.size + 1, 0, none⟩) m m, .int .i64 0, .slice none 0 0] 25)).heap.size = w.heap.size + 1 by simp] at h
      exact h) (by omega) (by unfold maxLen; omega) (by rw [size_madeCells])
    rw [made_slots] at hrow
    have hso : SO ((w.alloc (.cells #[.slice (some ⟨w.heap.size + 1, 0, none⟩) m m, .int .i64 0, .slice none 0 0] 25)).alloc (.cells (madeCells #[.bool false, .bool false, .int .i64 0, .int .i64 0] (m * 4)) 51)) w.heap.size ⟨List.replicate m sz, 0, []⟩ (.slice (some ⟨w.heap.size + 1, 0, none⟩) m m) (.slice none 0 0) :=
      ⟨by show World.ownsRow _ _ _ _ _ (List.replicate m sz).length _; rw [List.length_replicate]; exact hrow, World.ownsRow_nil _ _ _ _⟩
    exact bodyPost_ret (results_cell_tmp (q := 3) rfl _ _ w.heap.size _ _ _ rfl ((Blk.new _ _ _).alloc _) Try.underlying25 rfl (by kernel_rfl)) rfl ⟨_, _, rfl, hso.sv, ((Below.refl _ _).al _).al _, hso.typ⟩

set_option maxRecDepth 100000 in
set_option maxHeartbeats 8000000 in
theorem same_any {st : St} {a b a2 b2 : Value} {w : World} (h : SV w w.heap.size st a b) (h2 : SV w w.heap.size st a2 b2) (hl : st.slots.length ≤ 1000000) (hl2 : st.missed.length ≤ 1000000) :
    Calls Try.prog 10 #[.agg #[a, .int .i64 st.clock, b], .agg #[a2, .int .i64 st.clock, b2]] w (Ret (.bool true) w) := by
  obtain ⟨slots, clock, missed⟩ := st
  obtain ⟨⟨A1, c1, e1, hs1, _⟩, ⟨A2, c2, e2, hr2, _⟩⟩ := h
  obtain ⟨⟨A3, c3, e3, hs3, _⟩, ⟨A4, c4, e4, hr4, _⟩⟩ := h2
  subst e1 e2 e3 e4
  simp only at hs1 hr2 hs3 hr4 hl hl2 ⊢
  have HS1 := Lib.hid hs1
  have HR2 := Lib.hid hr2
  have HS3 := Lib.hid hs3
  have HR4 := Lib.hid hr4
  have hb := ((Below.refl w.heap.size w).al (.cells #[.slice A1 slots.length c1, .int .i64 clock, .slice A2 missed.length c2] 25)).al (.cells #[.slice A3 slots.length c3, .int .i64 clock, .slice A4 missed.length c4] 25)
  have hb1 := (Blk.new w 25 #[.slice A1 slots.length c1, .int .i64 clock, .slice A2 missed.length c2]).alloc (.cells #[.slice A3 slots.length c3, .int .i64 clock, .slice A4 missed.length c4] 25)
  have hb2 := Blk.new (w.alloc (.cells #[.slice A1 slots.length c1, .int .i64 clock, .slice A2 missed.length c2] 25)) 25 #[.slice A3 slots.length c3, .int .i64 clock, .slice A4 missed.length c4]
  rw [show (w.alloc (.cells #[.slice A1 slots.length c1, .int .i64 clock, .slice A2 missed.length c2] 25)).heap.size = w.heap.size + 1 by simp] at hb2
  have HB := Lib.hid hb
  have HB1 := Lib.hid hb1
  have HB2 := Lib.hid hb2
  clear hs1 hr2 hs3 hr4 hb hb1 hb2
  go_enter Try.func10, Try.ntmps10
  go_wp2_with fail
  generalize ((w.alloc (.cells #[.slice A1 slots.length c1, .int .i64 clock, .slice A2 missed.length c2] 25)).alloc (.cells #[.slice A3 slots.length c3, .int .i64 clock, .slice A4 missed.length c4] 25)) = w0 at HB HB1 HB2
  change Code.wp _ _ _ { tmps := _, defers := [] } _
  go_loopw [5] (fun v wr => ∃ (k n : Nat), k ≤ slots.length ∧ v = .int .i64 (k : Int) ∧ wr = w0.drewN n) (fun v _ => slots.length - (intOf v).toNat)
  case atStart => exact ⟨0, 0, by omega, rfl, rfl⟩
  case round =>
    obtain ⟨k, n, hk, rfl, rfl⟩ := hrel
    have d0 : w0.cell? ⟨w.heap.size, 0, none⟩ = some (.slice A1 slots.length c1) := by rw [HB1.out.cell]; rfl
    have d2 : w0.cell? ⟨w.heap.size, 2, none⟩ = some (.slice A2 missed.length c2) := by rw [HB1.out.cell]; rfl
    have e0 : w0.cell? ⟨w.heap.size + 1, 0, none⟩ = some (.slice A3 slots.length c3) := by rw [HB2.out.cell]; rfl
    have e2 : w0.cell? ⟨w.heap.size + 1, 2, none⟩ = some (.slice A4 missed.length c4) := by rw [HB2.out.cell]; rfl
    by_cases hlt : k < slots.length
    · have j0 : (k : Int) < (slots.length : Int) := by omega
      have j1 : (0 : Int) ≤ (k : Int) := by omega
      obtain ⟨g, t, rfl, hg, ht, hf⟩ := (HS1.out.below HB.out (Nat.le_refl _)).at_ hlt
      obtain ⟨g2, t2, rfl, hg2, ht2, hf2⟩ := (HS3.out.below HB.out (Nat.le_refl _)).at_ hlt
      obtain rfl := Option.some.inj (ht.symm.trans ht2)
      obtain ⟨a0, a1, a2, a3⟩ := hf
      obtain ⟨b0, b1, b2, b3⟩ := hf2
      clear ht ht2 hg hg2
      go_wp2_with fail
      go_quiet (fail)
      go_wp2_with fail
      exact ⟨⟨k + 1, n + nq, by omega, by go_num, rfl⟩, by simp [intOf]; omega⟩
    · obtain rfl : k = slots.length := by omega
      go_wp2_with fail
      change Code.wp _ _ _ { tmps := _, defers := [] } _
      go_loopw [6] (fun v wr => ∃ (k n : Nat), k ≤ missed.length ∧ v = .int .i64 (k : Int) ∧ wr = w0.drewN n) (fun v _ => missed.length - (intOf v).toNat)
      case atStart => exact ⟨0, n, by omega, rfl, rfl⟩
      case round =>
        clear hlt hk
        obtain ⟨k, n, hk, rfl, rfl⟩ := hrel
        by_cases hlt : k < missed.length
        · have j0 : (k : Int) < (missed.length : Int) := by omega
          have j1 : (0 : Int) ≤ (k : Int) := by omega
          obtain ⟨ad, u, rfl, had, hu, hc⟩ := (HR2.out.below HB.out).at_ hlt
          obtain ⟨ad2, u2, rfl, had2, hu2, hc2⟩ := (HR4.out.below HB.out).at_ hlt
          obtain rfl := Option.some.inj (hu.symm.trans hu2)
          rw [I_one_at hlt] at hu
          injection hu with hu
          subst hu
          generalize missed[k] = x at hc hc2
          clear hu2 had had2
          go_wp2_with fail
          go_quiet (fail)
          go_wp2_with fail
          exact ⟨⟨k + 1, n + nq, by omega, by go_num, rfl⟩, by simp [intOf]; omega⟩
        · obtain rfl : k = missed.length := by omega
          go_wp2_with fail
          go_ret
          exact ⟨rfl, below_drewN HB.out n⟩
end Go.Proofs.Ytmmdckijokiomaa
