/- Victim and the reference's Find: the walks. -/
import Derived.Test.YtmmdckijokiomaaVictim
namespace Go.Proofs.Ytmmdckijokiomaa
open Go.RowKit

theorem vIdx_some {l : List Sl} {i : Nat} (h : l.findIdx? isV = some i) : vIdx l = (i : Int) := by unfold vIdx; rw [h]
theorem vIdx_clean {l : List Sl} (h : l.findIdx? isV = none) (h2 : 0 ≤ leastI pClean l) : vIdx l = leastI pClean l := by unfold vIdx; rw [h]; simp only; rw [if_pos h2]
theorem vIdx_all {l : List Sl} (h : l.findIdx? isV = none) (h2 : leastI pClean l < 0) : vIdx l = leastI pAll l := by unfold vIdx; rw [h]; simp only; rw [if_neg (by omega)]
theorem victim_out {st : St} (h : validB st = false) : victimV st = .tuple #[.int .i64 0, .int .i64 2] := by unfold victimV; rw [if_neg (by rw [h]; exact Bool.false_ne_true)]
theorem victim_in {st : St} (h : validB st = true) {i : Int} (hi : vIdx st.slots = i) : victimV st = .tuple #[.int .i64 i, .int .i64 0] := by unfold victimV; rw [if_pos h, hi]
theorem all_v {l : List Sl} (h : l.findIdx? isV = none) : ∀ t ∈ l, t.valid = true := by
  intro t ht
  have := List.findIdx?_eq_none_iff.1 h t ht
  unfold isV at this
  simpa using this

set_option maxRecDepth 100000 in
set_option maxHeartbeats 8000000 in
theorem victim_any {st : St} {a bb : Value} {w : World} (h : SV w w.heap.size st a bb) :
    Calls Try.prog 22 #[.agg #[a, .int .i64 st.clock, bb]] w (Ret (victimV st) w) := by
  have he := E1.mk_ w a (.int .i64 st.clock) bb
  have hu := h.up he.bel
  have HV := Lib.hid (valid_any hu)
  have HE := Lib.hid he
  have HU := Lib.hid hu
  cases hv : validB st with
  | false =>
    rw [valid2 hv] at HV
    rw [victim_out hv]
    obtain ⟨slots, clock, missed⟩ := st
    obtain ⟨⟨A1, c1, e1, hs1, _⟩, ⟨A2, c2, e2, hr2, _⟩⟩ := h
    subst e1 e2
    clear he hu hv hs1 hr2
    go_enter Try.func22, Try.ntmps22
    go_wp2_with fail
    refine HV.out.mono ?_
    rintro e w5 ⟨rfl, hb5⟩
    have HE5 := Lib.hid (HE.out.up hb5)
    clear hb5
    go_wp2_with fail
    go_ret2
    exact ⟨rfl, HE5.out.bel⟩
  | true =>
    rw [valid0 hv] at HV
    have hlen := valid_len hv
    have HRV := Lib.hid (fun i => victim_in hv (i := i))
    obtain ⟨slots, clock, missed⟩ := st
    obtain ⟨⟨A1, c1, e1, hs1, _⟩, ⟨A2, c2, e2, hr2, _⟩⟩ := h
    subst e1 e2
    clear he hu hv hs1 hr2
    cases hix : slots.findIdx? isV with
    | some i =>
      rw [HRV.out _ (vIdx_some hix)]
      have HIX := Lib.hid (show optI (slots.findIdx? isV) = (i : Int) by rw [hix]; rfl)
      have i1 : ¬ (i : Int) < 0 := by omega
      clear hix
      go_enter Try.func22, Try.ntmps22
      go_wp2_with fail
      refine HV.out.mono ?_
      rintro e w5 ⟨rfl, hb5⟩
      have HE5 := Lib.hid (HE.out.up hb5)
      obtain ⟨⟨A1', c1', e1, hs1, _⟩, _⟩ := HU.out.up hb5
      injection e1 with e1 _ e2
      subst e1 e2
      have HS1 := Lib.hid hs1
      obtain ⟨x0, x1, x2⟩ := HE5.out.c
      clear hb5 hs1
      go_wp2_with fail
      refine (index_v HS1.out hlen HIX.out).mono ?_
      rintro e w6 ⟨rfl, hb6⟩
      have HE6 := Lib.hid (HE5.out.up hb6)
      clear hb6
      go_wp2_with fail
      go_ret2
      exact ⟨rfl, HE6.out.bel⟩
    | none =>
      have HIX := Lib.hid (show optI (slots.findIdx? isV) = -1 by rw [hix]; rfl)
      by_cases hcl : 0 ≤ leastI pClean slots
      · rw [HRV.out _ (vIdx_clean hix hcl)]
        obtain ⟨i, hi⟩ : ∃ i, leastI pClean slots = i := ⟨_, rfl⟩
        rw [hi] at hcl ⊢
        have HI := Lib.hid hi
        have i1 : ¬ i < 0 := by omega
        clear hix hi
        go_enter Try.func22, Try.ntmps22
        go_wp2_with fail
        refine HV.out.mono ?_
        rintro e w5 ⟨rfl, hb5⟩
        have HE5 := Lib.hid (HE.out.up hb5)
        have HU5 := Lib.hid (HU.out.up hb5)
        obtain ⟨⟨A1', c1', e1, hs1, _⟩, _⟩ := HU5.out
        injection e1 with e1 _ e2
        subst e1 e2
        have HS1 := Lib.hid hs1
        obtain ⟨x0, x1, x2⟩ := HE5.out.c
        clear hb5 hs1
        go_wp2_with fail
        refine (index_v HS1.out hlen HIX.out).mono ?_
        rintro e w6 ⟨rfl, hb6⟩
        have HE6 := Lib.hid (HE5.out.up hb6)
        have HU6 := Lib.hid (HU5.out.up hb6)
        clear x0 x1 x2
        obtain ⟨x0, x1, x2⟩ := HE6.out.c
        clear hb6
        go_wp2_with fail
        refine (least_clean HU6.out hlen HI.out).mono ?_
        rintro e w7 ⟨rfl, hb7⟩
        have HE7 := Lib.hid (HE6.out.up hb7)
        clear hb7
        go_wp2_with fail
        go_ret2
        exact ⟨rfl, HE7.out.bel⟩
      · have hcl2 : leastI pClean slots < 0 := by omega
        rw [HRV.out _ (vIdx_all hix hcl2)]
        clear hcl2
        obtain ⟨i, hi⟩ : ∃ i, leastI pClean slots = i := ⟨_, rfl⟩
        obtain ⟨j, hj⟩ : ∃ j, leastI pAll slots = j := ⟨_, rfl⟩
        rw [hi] at hcl
        rw [hj]
        have HI := Lib.hid hi
        have HJ := Lib.hid hj
        have i1 : i < 0 := by omega
        clear hix hi hj hcl
        go_enter Try.func22, Try.ntmps22
        go_wp2_with fail
        refine HV.out.mono ?_
        rintro e w5 ⟨rfl, hb5⟩
        have HE5 := Lib.hid (HE.out.up hb5)
        have HU5 := Lib.hid (HU.out.up hb5)
        obtain ⟨⟨A1', c1', e1, hs1, _⟩, _⟩ := HU5.out
        injection e1 with e1 _ e2
        subst e1 e2
        have HS1 := Lib.hid hs1
        obtain ⟨x0, x1, x2⟩ := HE5.out.c
        clear hb5 hs1
        go_wp2_with fail
        refine (index_v HS1.out hlen HIX.out).mono ?_
        rintro e w6 ⟨rfl, hb6⟩
        have HE6 := Lib.hid (HE5.out.up hb6)
        have HU6 := Lib.hid (HU5.out.up hb6)
        clear x0 x1 x2
        obtain ⟨x0, x1, x2⟩ := HE6.out.c
        clear hb6
        go_wp2_with fail
        refine (least_clean HU6.out hlen HI.out).mono ?_
        rintro e w7 ⟨rfl, hb7⟩
        have HE7 := Lib.hid (HE6.out.up hb7)
        have HU7 := Lib.hid (HU6.out.up hb7)
        clear x0 x1 x2
        obtain ⟨x0, x1, x2⟩ := HE7.out.c
        clear hb7
        go_wp2_with fail
        refine (least_all HU7.out hlen HJ.out).mono ?_
        rintro e w8 ⟨rfl, hb8⟩
        have HE8 := Lib.hid (HE7.out.up hb8)
        clear hb8
        go_wp2_with fail
        go_ret2
        exact ⟨rfl, HE8.out.bel⟩
theorem clean_r {l : List Sl} (h : l.findIdx? isV = none) : leastI pClean l = leastI (rDirty false) l :=
  leastI_congr fun t ht => by unfold pClean rDirty; rw [all_v h t ht]; cases t.dirty <;> rfl
theorem all_r {l : List Sl} (h : l.findIdx? isV = none) (h2 : leastI pClean l < 0) : leastI pAll l = leastI (rDirty true) l :=
  leastI_congr fun t ht => by
    have := leastI_neg h2 t ht
    unfold pClean at this
    unfold pAll rDirty
    rw [all_v h t ht]
    cases hd : t.dirty with
    | true => rfl
    | false => rw [hd] at this; cases this

set_option maxRecDepth 100000 in
set_option maxHeartbeats 8000000 in
theorem rvictim_any {st : St} {a bb : Value} {w : World} (h : SV w w.heap.size st a bb) :
    Calls Try.prog 23 #[.agg #[a, .int .i64 st.clock, bb]] w (Ret (victimV st) w) := by
  have he := E1.mk_ w a (.int .i64 st.clock) bb
  have hu := h.up he.bel
  have HV := Lib.hid (rvalid_any hu)
  have HE := Lib.hid he
  have HU := Lib.hid hu
  cases hv : validB st with
  | false =>
    rw [valid2 hv] at HV
    rw [victim_out hv]
    obtain ⟨slots, clock, missed⟩ := st
    obtain ⟨⟨A1, c1, e1, hs1, _⟩, ⟨A2, c2, e2, hr2, _⟩⟩ := h
    subst e1 e2
    clear he hu hv hs1 hr2
    go_enter Try.func23, Try.ntmps23
    go_wp2_with fail
    refine HV.out.mono ?_
    rintro e w5 ⟨rfl, hb5⟩
    have HE5 := Lib.hid (HE.out.up hb5)
    clear hb5
    go_wp2_with fail
    go_ret2
    exact ⟨rfl, HE5.out.bel⟩
  | true =>
    rw [valid0 hv] at HV
    have hlen := valid_len hv
    have HRV := Lib.hid (fun i => victim_in hv (i := i))
    obtain ⟨slots, clock, missed⟩ := st
    obtain ⟨⟨A1, c1, e1, hs1, _⟩, ⟨A2, c2, e2, hr2, _⟩⟩ := h
    subst e1 e2
    have HS1 := Lib.hid hs1
    clear he hu hv hs1 hr2
    go_enter Try.func23, Try.ntmps23
    go_wp2_with fail
    refine HV.out.mono ?_
    rintro e w5 ⟨rfl, hb5⟩
    have HE5 := Lib.hid (HE.out.up hb5)
    have HU5 := Lib.hid (HU.out.up hb5)
    clear hb5
    go_wp2_with fail
    go_loop [4] (fun v => ∃ k : Nat, k ≤ slots.length ∧ v = .int .i64 (k : Int) ∧ (∀ x ∈ slots.take k, isV x = false)) (fun v => slots.length - (intOf v).toNat)
    case atStart => exact ⟨0, by omega, rfl, by simp⟩
    case round =>
      obtain ⟨k, hk, rfl, hx⟩ := hrel
      have HX := Lib.hid hx
      clear hx
      obtain ⟨x0, x1, x2⟩ := HE5.out.c
      by_cases hlt : k < slots.length
      · have j0 : (k : Int) < (slots.length : Int) := by omega
        obtain ⟨g, t, rfl, hg, ht, hf⟩ := (HS1.out.below HE5.out.bel (Nat.le_refl _)).at_ hlt
        have HT := Lib.hid ht
        obtain ⟨a0, a1, a2, a3⟩ := hf
        obtain ⟨va, di, bl, sp⟩ := t
        simp only at a0
        clear ht hg
        cases va with
        | true =>
          have HN := Lib.hid (none_next HT.out HX.out (show isV ⟨true, di, bl, sp⟩ = false from rfl))
          go_wp2_with fail
          go_round
          case rel => exact ⟨k + 1, by omega, by go_num, HN.out⟩
          case measure => simp [intOf]; omega
        | false =>
          have HE9 := Lib.hid (HRV.out _ (vIdx_some (findIdx_at HT.out HX.out (show isV ⟨false, di, bl, sp⟩ = true from rfl))))
          go_wp2_with fail
          go_ret2
          exact ⟨by rw [HE9.out]; rfl, HE5.out.bel⟩
      · obtain rfl : k = slots.length := by omega
        have hix : slots.findIdx? isV = none := findIdx_none (by have := HX.out; rw [List.take_length] at this; exact this)
        by_cases hcl : 0 ≤ leastI pClean slots
        · have hr9 := HRV.out _ (vIdx_clean hix hcl)
          rw [clean_r hix] at hcl hr9
          obtain ⟨i, hi⟩ : ∃ i, leastI (rDirty false) slots = i := ⟨_, rfl⟩
          rw [hi] at hcl hr9
          have HR9 := Lib.hid hr9
          clear hr9
          have HI := Lib.hid hi
          clear hix hi
          go_wp2_with fail
          refine (rleast_any HU5.out hlen HI.out).mono ?_
          rintro e w6 ⟨rfl, hb6⟩
          have HE6 := Lib.hid (HE5.out.up hb6)
          clear hb6
          go_wp2_with fail
          go_ret2
          exact ⟨by rw [HR9.out]; rfl, HE6.out.bel⟩
        · have hcl2 : leastI pClean slots < 0 := by omega
          have hr9 := HRV.out _ (vIdx_all hix hcl2)
          rw [all_r hix hcl2] at hr9
          rw [clean_r hix] at hcl
          clear hcl2
          obtain ⟨i, hi⟩ : ∃ i, leastI (rDirty false) slots = i := ⟨_, rfl⟩
          obtain ⟨j, hj⟩ : ∃ j, leastI (rDirty true) slots = j := ⟨_, rfl⟩
          rw [hi] at hcl
          rw [hj] at hr9
          have HR9 := Lib.hid hr9
          clear hr9
          have HI := Lib.hid hi
          have HJ := Lib.hid hj
          have i1 : i < 0 := by omega
          have i2 : ¬ 0 ≤ i := by omega
          clear hix hi hj hcl
          go_wp2_with fail
          refine (rleast_any HU5.out hlen HI.out).mono ?_
          rintro e w6 ⟨rfl, hb6⟩
          have HE6 := Lib.hid (HE5.out.up hb6)
          have HU6 := Lib.hid (HU5.out.up hb6)
          clear x0 x1 x2
          obtain ⟨x0, x1, x2⟩ := HE6.out.c
          clear hb6
          go_wp2_with fail
          refine (rleast_any HU6.out hlen HJ.out).mono ?_
          rintro e w7 ⟨rfl, hb7⟩
          have HE7 := Lib.hid (HE6.out.up hb7)
          clear hb7
          go_wp2_with fail
          go_ret2
          exact ⟨by rw [HR9.out]; rfl, HE7.out.bel⟩
end Go.Proofs.Ytmmdckijokiomaa
