/- What Dec, Alloc and Free of a space map return. -/
import Derived.Test.YtieegbejpabpiaaMeth
namespace Go.Proofs.Ytieegbejpabpiaa
open Go.RowKit

theorem freeB_iff (N O : List Int) (b : Nat) : freeB N O b = true ↔ N.getD b 0 = 0 ∧ O.getD b 0 = 0 := by
  unfold freeB
  rw [Bool.and_eq_true, beq_iff_eq, beq_iff_eq]
theorem freeB_false (N O : List Int) (b : Nat) (h : freeB N O b = false) : N.getD b 0 ≠ 0 ∨ O.getD b 0 ≠ 0 := by
  by_cases h1 : N.getD b 0 = 0
  · by_cases h2 : O.getD b 0 = 0
    · rw [(freeB_iff N O b).2 ⟨h1, h2⟩] at h; cases h
    · exact .inr h2
  · exact .inl h1

set_option maxHeartbeats 1000000 in
theorem dec_any {base : Nat} {w : World} {bm gn cn gw cw lo : Nat} {N O : List Int} (h : MS base w bm gn cn gw cw N O lo) (hL : LowOk N O lo) (b : Int) :
    Calls Try.prog 31 #[.pointer (some ⟨bm, 0, none⟩), .int .i64 b] w (MRet base bm gn cn gw cw (.int .i64 (decE N b)) (decN N b) O w) := by
  have H := Lib.hid (has_any h b)
  have HM := Lib.hid h
  have HL := Lib.hid hL
  clear hL
  have c0 := h.c0
  have hs := h.small
  by_cases hh : hasB N b = true
  · obtain ⟨h0, h1⟩ := (hasB_iff _ _).1 hh
    obtain ⟨k, rfl⟩ := Int.eq_ofNat_of_zero_le h0
    have hk : k < N.length := by omega
    have d0 := h.now.cell hk
    have f0 := h.now.frozen k
    have hr := rng_at h.rng k
    by_cases hx : N.getD k 0 = 0
    · have HE := Lib.hid (show decE N (k : Int) = 12 by simp only [decE, hh, if_true, Int.toNat_natCast, hx])
      have HN := Lib.hid (show decN N (k : Int) = N by rw [decN, HE.out, if_neg (by decide)])
      have hx' : (N.getD k 0 == 0) = true := by simp only [hx]; rfl
      generalize N.getD k 0 = x at *
      clear h hx
      go_enter Try.func31, Try.ntmps31
      go_wp2_with fail
      refine H.out.mono ?_
      rintro e w1 ⟨rfl, rfl⟩
      go_wp2_with fail
      go_ret
      exact ⟨by rw [HE.out]; rfl, by rw [HN.out]; exact ⟨lo, HM.out, HL.out⟩, Only.refl _ _⟩
    · have hx' : (N.getD k 0 == 0) = false := beq_eq_false_iff_ne.2 hx
      have HE := Lib.hid (show decE N (k : Int) = 0 by simp only [decE, hh, if_true, Int.toNat_natCast]; rw [if_neg hx])
      have HN := Lib.hid (show decN N (k : Int) = N.set k (N.getD k 0 - 1) by rw [decN, HE.out, if_pos rfl]; simp)
      obtain ⟨hp, hpo⟩ := h.put k (N.getD k 0 - 1) (by omega)
      have hN2 : (N.set k (N.getD k 0 - 1)).length = N.length := List.length_set
      have hfr := free1_any hp k (by rw [hN2]; exact hk)
      have e2 := hp.c2
      have g2 := hp.blk.frozen 2
      have hlon := hp.lon
      have hGS := getD_set N k
      by_cases hf : freeB (N.set k (N.getD k 0 - 1)) O k = true
      · have HPL := Lib.hid (hp.putLow (min lo k) (by rw [hN2] at hlon ⊢; omega))
        have HLL : Hid (LowOk (N.set k (N.getD k 0 - 1)) O (min lo k)) := fun b hb => by
          rw [hGS b _ hk, if_neg (by omega)]
          exact HL.out b (by omega)
        have HFR := Lib.hid hfr
        have HPO := Lib.hid hpo
        clear h hp hfr hpo hx hGS hlon hN2
        generalize N.getD k 0 = x at *
        generalize hw1 : w.setCell ⟨gn, k, none⟩ (.int .i64 (x - 1)) = w1 at *
        go_enter Try.func31, Try.ntmps31
        go_wp2_with fail
        refine H.out.mono ?_
        rintro e w2 ⟨rfl, rfl⟩
        go_wp2_with fail
        refine HFR.out.mono ?_
        rw [hf]
        rintro e w2 ⟨rfl, rfl⟩
        by_cases hmin : (k : Int) < (lo : Int)
        · rw [show min lo k = k by omega] at HPL HLL
          go_wp2_with fail
          go_ret
          exact ⟨by rw [HE.out]; rfl, by rw [HN.out]; exact ⟨k, HPL.out.1, HLL.out⟩, HPO.out.trans HPL.out.2⟩
        · rw [show min lo k = lo by omega] at HPL HLL
          go_wp2_with fail
          go_ret
          exact ⟨by rw [HE.out]; rfl, by rw [HN.out]; exact ⟨lo, HPL.out.1, HLL.out⟩, HPO.out.trans HPL.out.2⟩
      · have hf' : freeB (N.set k (N.getD k 0 - 1)) O k = false := by simpa using hf
        have HP := Lib.hid hp
        have HLL : Hid (LowOk (N.set k (N.getD k 0 - 1)) O lo) := fun b hb => by
          by_cases e : b = k
          · subst e
            exact freeB_false _ _ _ hf'
          · rw [hGS b _ hk, if_neg e]
            exact HL.out b hb
        have HFR := Lib.hid hfr
        have HPO := Lib.hid hpo
        clear h hp hfr hpo hx hGS hlon hN2 hf
        generalize N.getD k 0 = x at *
        generalize hw1 : w.setCell ⟨gn, k, none⟩ (.int .i64 (x - 1)) = w1 at *
        go_enter Try.func31, Try.ntmps31
        go_wp2_with fail
        refine H.out.mono ?_
        rintro e w2 ⟨rfl, rfl⟩
        go_wp2_with fail
        refine HFR.out.mono ?_
        rw [hf']
        rintro e w2 ⟨rfl, rfl⟩
        go_wp2_with fail
        go_ret
        exact ⟨by rw [HE.out]; rfl, by rw [HN.out]; exact ⟨lo, HP.out, HLL.out⟩, HPO.out⟩
  · have hh' : hasB N b = false := by simpa using hh
    have HE := Lib.hid (show decE N b = 1 by simp [decE, hh'])
    have HN := Lib.hid (show decN N b = N by rw [decN, HE.out, if_neg (by decide)])
    clear h hh
    go_enter Try.func31, Try.ntmps31
    go_wp2_with fail
    refine H.out.mono ?_
    rintro e w1 ⟨rfl, rfl⟩
    go_wp2_with fail
    go_ret
    exact ⟨by rw [HE.out]; rfl, by rw [HN.out]; exact ⟨lo, HM.out, HL.out⟩, Only.refl _ _⟩

/-- the least free block -/
def ffree (N O : List Int) : Option Nat := (List.range N.length).find? (freeB N O)
theorem ffree_some (N O : List Int) (b : Nat) (h1 : b < N.length) (h2 : freeB N O b = true) (h3 : ∀ j, j < b → freeB N O j = false) : ffree N O = some b := by
  unfold ffree
  rw [List.find?_range_eq_some]
  exact ⟨h2, by simpa using h1, fun j hj => by simp [h3 j hj]⟩
theorem ffree_none (N O : List Int) (h : ∀ j, j < N.length → freeB N O j = false) : ffree N O = none := by
  unfold ffree
  rw [List.find?_eq_none]
  intro j hj
  simp [h j (by simpa using hj)]
def allocV (N O : List Int) : Value := match ffree N O with | some b => .tuple #[.int .i64 (b : Int), .int .i64 0] | none => .tuple #[.int .i64 0, .int .i64 14]
def allocN (N O : List Int) : List Int := match ffree N O with | some b => N.set b 1 | none => N
theorem low_free {N O : List Int} {lo : Nat} (h : LowOk N O lo) (j : Nat) (hj : j < lo) : freeB N O j = false := by
  cases hf : freeB N O j with
  | false => rfl
  | true =>
    obtain ⟨h1, h2⟩ := (freeB_iff N O j).1 hf
    rcases h j hj with h3 | h3
    · exact absurd h1 h3
    · exact absurd h2 h3

set_option maxHeartbeats 1000000 in
theorem alloc_any {base : Nat} {w : World} {bm gn cn gw cw lo : Nat} {N O : List Int} (h : MS base w bm gn cn gw cw N O lo) (hL : LowOk N O lo) :
    Calls Try.prog 18 #[.pointer (some ⟨bm, 0, none⟩)] w (MRet base bm gn cn gw cw (allocV N O) (allocN N O) O w) := by
  have hs := h.small
  go_enter Try.func18, Try.ntmps18
  go_wp2_with fail
  go_loopw [] (fun wr => ∃ k : Nat, MS base wr bm gn cn gw cw N O k ∧ LowOk N O k ∧ Only (FM bm gn gw) w wr) (fun wr => N.length - (match wr.cell? ⟨bm, 2, none⟩ with | some v => (intOf v).toNat | none => 0))
  case atStart => exact ⟨lo, h, hL, Only.refl _ _⟩
  case round =>
    obtain ⟨k, hm, hl, ho⟩ := hrel
    have c0 := hm.c0
    have c2 := hm.c2
    have hk := hm.lon
    have HL := Lib.hid hl
    clear h hL hl
    go_wp2_with fail
    go_quiet (fail)
    obtain ⟨wq, hwq⟩ : ∃ wq, wr.drewN nq = wq := ⟨_, rfl⟩
    have hmq := hm.drewN nq
    have hoq := ho.drewN nq
    have hcq : wq.cell? ⟨bm, 2, none⟩ = wr.cell? ⟨bm, 2, none⟩ := by rw [← hwq]; rfl
    rw [hwq] at hmq hoq ⊢
    clear hwq nq c0 hm ho
    by_cases hlt : k < N.length
    · have c0 := hmq.c0
      have c2q := hmq.c2
      have hfr : ∀ W, MS base W bm gn cn gw cw N O k → Calls Try.prog 41 #[.pointer (some ⟨bm, 0, none⟩), .int .i64 k] W fun e w' => e = .returned (.bool (freeB N O k)) ∧ W = w' := fun W hW => free1_any hW k hlt
      have HFR := Lib.hid hfr
      have HMQ := Lib.hid hmq
      have HOQ := Lib.hid hoq
      clear hfr hmq hoq
      by_cases hf : freeB N O k = true
      · have HFF := Lib.hid (ffree_some N O k hlt hf (low_free HL.out))
        go_wp2_with fail
        go_quiet ((go_at_call 41; exact quiet_left (HFR.out _ (HMQ.out.drewN _))))
        rw [hf]
        obtain ⟨wz, hwz⟩ : ∃ wz, wq.drewN nq = wz := ⟨_, rfl⟩
        have hmz := HMQ.out.drewN nq
        have hoz := HOQ.out.drewN nq
        rw [hwz] at hmz hoz ⊢
        clear hwz nq hcq c2 c0 c2q
        have c0 := hmz.c0
        have c2 := hmz.c2
        have hmd : MS base wz.drew bm gn cn gw cw N O k := hmz.below (Below.refl _ _).drew
        have d0 := hmz.now.cell hlt
        have f0 := hmz.now.frozen k
        obtain ⟨hp, hpo⟩ := hmd.put k 1 (by omega)
        have e2 := hp.c2
        have hpl := HL.out.put hlt 1 (.inl (by omega))
        have HRES := Lib.hid (show MRet base bm gn cn gw cw (allocV N O) (allocN N O) O w (.returned (.tuple #[.int .i64 (k : Int), .int .i64 0])) (wz.drew.setCell ⟨gn, k, none⟩ (.int .i64 1)) from
          ⟨by rw [allocV, HFF.out], by rw [allocN, HFF.out]; exact ⟨k, hp, hpl⟩, (hoz.drew).trans hpo⟩)
        generalize hw5 : wz.drew.setCell ⟨gn, k, none⟩ (.int .i64 1) = w5 at *
        have i1 : (k : Int) < (N.length : Int) := by omega
        clear hp hpo hpl hmd hmz hoz
        generalize N.getD k 0 = x at d0
        go_wp2_with fail
        refine region_tail 11 (by kernel_rfl) (by kernel_rfl) ?_
        simp only [List.take_succ_cons, List.take_zero, List.drop_succ_cons, List.drop_zero]
        repeat still_step
        refine wpStill_nil ?_
        go_wp2_with fail
        go_ret2
        exact HRES.out
      · have hf' : freeB N O k = false := by simpa using hf
        go_wp2_with fail
        go_quiet ((go_at_call 41; exact quiet_left (HFR.out _ (HMQ.out.drewN _))))
        rw [hf']
        obtain ⟨wz, hwz⟩ : ∃ wz, wq.drewN nq = wz := ⟨_, rfl⟩
        have hmz := HMQ.out.drewN nq
        have hoz := HOQ.out.drewN nq
        rw [hwz] at hmz hoz ⊢
        clear hwz nq c0 c2q
        have c0 := hmz.c0
        have c2z := hmz.c2
        have f2 := hmz.blk.frozen 2
        obtain ⟨hp, hpo⟩ := hmz.putLow (k + 1) (by omega)
        have hpl : LowOk N O (k + 1) := fun b hb => by
          by_cases e : b = k
          · subst e; exact freeB_false _ _ _ hf'
          · exact HL.out b (by omega)
        have hpw := hoz.trans hpo
        have e2 := hp.c2
        rw [show ((k + 1 : Nat) : Int) = (k : Int) + 1 by omega] at *
        generalize hw5 : wz.setCell ⟨bm, 2, none⟩ (.int .i64 ((k : Int) + 1)) = w5 at *
        have HP := Lib.hid hp
        have HPL := Lib.hid hpl
        have HPW := Lib.hid hpw
        clear hp hpo hpl hpw hmz hoz hf hf'
        go_wp2_with fail
        go_roundw
        case rel => exact ⟨k + 1, HP.out, HPL.out, HPW.out⟩
        case measure =>
          rw [c2, e2]
          simp [intOf]
          omega
    · obtain rfl : k = N.length := by omega
      have HFF := Lib.hid (ffree_none N O (low_free HL.out))
      have HMQ := Lib.hid hmq
      have HOQ := Lib.hid hoq
      clear hmq hoq
      go_wp2_with fail
      go_ret2
      exact ⟨by rw [allocV, HFF.out]; rfl, by rw [allocN, HFF.out]; exact ⟨_, HMQ.out, HL.out⟩, HOQ.out⟩
end Go.Proofs.Ytieegbejpabpiaa
