/- least with each of its closures (printed by genLeast.py). -/
import Derived.Test.YtmmdckijokiomaaLeastP
import Derived.Test.YtmmdckijokiomaaCalm
namespace Go.Proofs.Ytmmdckijokiomaa
open Go.RowKit

def pDirty (t : Sl) : Bool := t.dirty
def pClean (t : Sl) : Bool := !t.dirty
def pAll (_ : Sl) : Bool := true

set_option maxRecDepth 100000 in
theorem kind_dirty {t : Sl} {w : World} {q : Bool} (hq : pDirty t = q) :
    Calls Try.prog 41 #[.agg #[.bool t.valid, .bool t.dirty, .int .i64 t.block, .int .i64 t.stamp]] w (Ret (.bool q) w) := by
  subst hq
  obtain ⟨va, di, bl, sp⟩ := t
  cases di with
  | false =>
    go_enter Try.func41, Try.ntmps41
    go_wp2_with fail
    go_ret
    exact ⟨rfl, (Below.refl _ _).al _⟩
  | true =>
    go_enter Try.func41, Try.ntmps41
    go_wp2_with fail
    go_ret
    exact ⟨rfl, (Below.refl _ _).al _⟩

set_option maxRecDepth 100000 in
set_option maxHeartbeats 4000000 in
theorem least_dirty {st : St} {a bb : Value} {w : World} (h : SV w w.heap.size st a bb) (hl : st.slots.length ≤ 1000000) {i : Int} (hi : leastI pDirty st.slots = i) :
    Calls Try.prog 40 #[.agg #[a, .int .i64 st.clock, bb], .func (.func 41) #[] #[]] w (Ret (.int .i64 i) w) := by
  obtain ⟨l, clock, missed⟩ := st
  obtain ⟨⟨A1, c1, e1, hs1, _⟩, ⟨A2, c2, e2, hr2, _⟩⟩ := h
  subst e1 e2
  simp only at hs1 hr2 hi hl ⊢
  have HR := Lib.hid hs1
  have HI := Lib.hid hi
  clear hs1 hr2 hi
  go_enter Try.func40, Try.ntmps40
  go_wp2_with fail
  go_loopw [5, 11] (fun u v wr => ∃ k : Nat, k ≤ l.length ∧ v = .int .i64 (k : Int) ∧ u = .int .i64 (optI (leastK pDirty l k)) ∧ Blk wr w.heap.size 25 #[.slice A1 l.length c1, .int .i64 clock, .slice A2 missed.length c2] ∧ Below w.heap.size w wr) (fun _ v _ => l.length - (intOf v).toNat)
  case atStart => exact ⟨0, by omega, rfl, rfl, Blk.new _ _ _, (Below.refl _ _).al _⟩
  case round =>
    obtain ⟨k, hk, rfl, rfl, hbk, hbw⟩ := hrel
    have HB := Lib.hid hbw
    have HBK := Lib.hid hbk
    have d0 : wr.cell? ⟨w.heap.size, 0, none⟩ = some (.slice A1 l.length c1) := by rw [hbk.cell]; rfl
    have d1 : wr.cell? ⟨w.heap.size, 1, none⟩ = some (.int .i64 clock) := by rw [hbk.cell]; rfl
    have d2 : wr.cell? ⟨w.heap.size, 2, none⟩ = some (.slice A2 missed.length c2) := by rw [hbk.cell]; rfl
    have hzl := hbk.lt
    clear hbk hbw
    by_cases hlt : k < l.length
    · have j0 : (k : Int) < (l.length : Int) := by omega
      obtain ⟨g, t, rfl, hg, ht, hf⟩ := (HR.out.below HB.out (Nat.le_refl _)).at_ hlt
      have HT := Lib.hid ht
      obtain ⟨a0, a1, a2, a3⟩ := hf
      clear ht
      have HBA := Lib.hid (HB.out.al (.cells #[.bool t.valid, .bool t.dirty, .int .i64 t.block, .int .i64 t.stamp] 51))
      have HTK := Lib.hid (Blk.new wr 51 #[.bool t.valid, .bool t.dirty, .int .i64 t.block, .int .i64 t.stamp])
      have HBB := Lib.hid (HBK.out.alloc (.cells #[.bool t.valid, .bool t.dirty, .int .i64 t.block, .int .i64 t.stamp] 51))
      cases hq : pDirty t with
      | false =>
        have HQ := Lib.hid hq
        have HN := Lib.hid (least_keep (p := pDirty) HT.out (by rw [hq]; rfl))
        clear hq
        go_wp2_with fail
        have e0 := CalmW.cell (show (wr.alloc (.cells #[.bool t.valid, .bool t.dirty, .int .i64 t.block, .int .i64 t.stamp] 51)).cell? ⟨wr.heap.size, 0, none⟩ = some (.bool t.valid) by rw [HTK.out.cell]; rfl)
        have e1 := CalmW.cell (show (wr.alloc (.cells #[.bool t.valid, .bool t.dirty, .int .i64 t.block, .int .i64 t.stamp] 51)).cell? ⟨wr.heap.size, 1, none⟩ = some (.bool t.dirty) by rw [HTK.out.cell]; rfl)
        have e2 := CalmW.cell (show (wr.alloc (.cells #[.bool t.valid, .bool t.dirty, .int .i64 t.block, .int .i64 t.stamp] 51)).cell? ⟨wr.heap.size, 2, none⟩ = some (.int .i64 t.block) by rw [HTK.out.cell]; rfl)
        have e3 := CalmW.cell (show (wr.alloc (.cells #[.bool t.valid, .bool t.dirty, .int .i64 t.block, .int .i64 t.stamp] 51)).cell? ⟨wr.heap.size, 3, none⟩ = some (.int .i64 t.stamp) by rw [HTK.out.cell]; rfl)
        refine wp_region_calm (by kernel_rfl) (by kernel_rfl) ?_
        repeat (go_big_quiet_step ((go_at_call 41; exact Calls.calm (kind_dirty HQ.out))))
        refine wpQuiet_nil ?_
        rintro _ ⟨n5, rfl⟩
        have HB5 := Lib.hid (HBA.out.trans (n5.ok.mono (by have := HBA.out.size; exact this)))
        have HK5 := Lib.hid (HBB.out.below n5.ok (Blk.lt HBB.out))
        clear e0 e1 e2 e3
        generalize n5.w = w5 at *
        go_wp2_with fail
        go_roundw
        case rel => exact ⟨k + 1, by omega, by go_num, by rw [HN.out], HK5.out, HB5.out⟩
        case measure => simp [intOf]; omega
      | true =>
        have HQ := Lib.hid hq
        cases hk0 : leastK pDirty l k with
        | none =>
          have HN := Lib.hid (least_take (p := pDirty) HT.out (by rw [hq, hk0]; rfl))
          have hm1 : optI none = -1 := rfl
          clear hq hk0
          go_wp2_with fail
          have e0 := CalmW.cell (show (wr.alloc (.cells #[.bool t.valid, .bool t.dirty, .int .i64 t.block, .int .i64 t.stamp] 51)).cell? ⟨wr.heap.size, 0, none⟩ = some (.bool t.valid) by rw [HTK.out.cell]; rfl)
          have e1 := CalmW.cell (show (wr.alloc (.cells #[.bool t.valid, .bool t.dirty, .int .i64 t.block, .int .i64 t.stamp] 51)).cell? ⟨wr.heap.size, 1, none⟩ = some (.bool t.dirty) by rw [HTK.out.cell]; rfl)
          have e2 := CalmW.cell (show (wr.alloc (.cells #[.bool t.valid, .bool t.dirty, .int .i64 t.block, .int .i64 t.stamp] 51)).cell? ⟨wr.heap.size, 2, none⟩ = some (.int .i64 t.block) by rw [HTK.out.cell]; rfl)
          have e3 := CalmW.cell (show (wr.alloc (.cells #[.bool t.valid, .bool t.dirty, .int .i64 t.block, .int .i64 t.stamp] 51)).cell? ⟨wr.heap.size, 3, none⟩ = some (.int .i64 t.stamp) by rw [HTK.out.cell]; rfl)
          refine wp_region_calm (by kernel_rfl) (by kernel_rfl) ?_
          repeat (go_big_quiet_step ((go_at_call 41; exact Calls.calm (kind_dirty HQ.out))))
          refine wpQuiet_nil ?_
          rintro _ ⟨n5, rfl⟩
          have HB5 := Lib.hid (HBA.out.trans (n5.ok.mono (by have := HBA.out.size; exact this)))
          have HK5 := Lib.hid (HBB.out.below n5.ok (Blk.lt HBB.out))
          clear e0 e1 e2 e3
          generalize n5.w = w5 at *
          go_wp2_with fail
          go_roundw
          case rel => exact ⟨k + 1, by omega, by go_num, by rw [HN.out]; rfl, HK5.out, HB5.out⟩
          case measure => simp [intOf]; omega
        | some j =>
          have hjk := least_lt _ _ _ _ hk0
          have hjl : j < l.length := by omega
          have hm1 : optI (some j) = (j : Int) := rfl
          have hm2 : decide ((j : Int) < 0) = false := decide_eq_false (by omega)
          have j2 : (j : Int) < (l.length : Int) := by omega
          obtain ⟨g', u, eg, hg', hu, hfu⟩ := (HR.out.below HBA.out (Nat.le_refl _)).at_ hjl
          injection eg with eg
          injection eg with eg
          subst eg
          have e4 := CalmW.cell hfu.c3
          have HU := Lib.hid hu
          have e5 := CalmW.cell (show (wr.alloc (.cells #[.bool t.valid, .bool t.dirty, .int .i64 t.block, .int .i64 t.stamp] 51)).cell? ⟨w.heap.size, 0, none⟩ = some (.slice (some ⟨g, 0, none⟩) l.length c1) by rw [HBB.out.cell]; rfl)
          have h0j : (0 : Int) ≤ (j : Int) := by omega
          clear hfu hu
          by_cases hsu : t.stamp < u.stamp
          · have HN := Lib.hid (least_take (p := pDirty) HT.out (by rw [hq, hk0]; unfold lessB; simp only [HU.out]; simpa using hsu))
            have hsd : decide (t.stamp < u.stamp) = true := decide_eq_true hsu
            clear hq hk0 hjk
            go_wp2_with fail
            have e0 := CalmW.cell (show (wr.alloc (.cells #[.bool t.valid, .bool t.dirty, .int .i64 t.block, .int .i64 t.stamp] 51)).cell? ⟨wr.heap.size, 0, none⟩ = some (.bool t.valid) by rw [HTK.out.cell]; rfl)
            have e1 := CalmW.cell (show (wr.alloc (.cells #[.bool t.valid, .bool t.dirty, .int .i64 t.block, .int .i64 t.stamp] 51)).cell? ⟨wr.heap.size, 1, none⟩ = some (.bool t.dirty) by rw [HTK.out.cell]; rfl)
            have e2 := CalmW.cell (show (wr.alloc (.cells #[.bool t.valid, .bool t.dirty, .int .i64 t.block, .int .i64 t.stamp] 51)).cell? ⟨wr.heap.size, 2, none⟩ = some (.int .i64 t.block) by rw [HTK.out.cell]; rfl)
            have e3 := CalmW.cell (show (wr.alloc (.cells #[.bool t.valid, .bool t.dirty, .int .i64 t.block, .int .i64 t.stamp] 51)).cell? ⟨wr.heap.size, 3, none⟩ = some (.int .i64 t.stamp) by rw [HTK.out.cell]; rfl)
            refine wp_region_calm (by kernel_rfl) (by kernel_rfl) ?_
            repeat (go_big_quiet_step ((go_at_call 41; exact Calls.calm (kind_dirty HQ.out))))
            refine wpQuiet_nil ?_
            rintro _ ⟨n5, rfl⟩
            have HB5 := Lib.hid (HBA.out.trans (n5.ok.mono (by have := HBA.out.size; exact this)))
            have HK5 := Lib.hid (HBB.out.below n5.ok (Blk.lt HBB.out))
            clear e0 e1 e2 e3 e4 e5
            generalize n5.w = w5 at *
            go_wp2_with fail
            go_roundw
            case rel => exact ⟨k + 1, by omega, by go_num, by rw [HN.out]; rfl, HK5.out, HB5.out⟩
            case measure => simp [intOf]; omega
          · have HN := Lib.hid (least_keep (p := pDirty) HT.out (by rw [hq, hk0]; unfold lessB; simp only [HU.out]; simpa using hsu))
            have HK0 := Lib.hid hk0
            have hsd : decide (t.stamp < u.stamp) = false := decide_eq_false hsu
            clear hq hk0 hjk
            go_wp2_with fail
            have e0 := CalmW.cell (show (wr.alloc (.cells #[.bool t.valid, .bool t.dirty, .int .i64 t.block, .int .i64 t.stamp] 51)).cell? ⟨wr.heap.size, 0, none⟩ = some (.bool t.valid) by rw [HTK.out.cell]; rfl)
            have e1 := CalmW.cell (show (wr.alloc (.cells #[.bool t.valid, .bool t.dirty, .int .i64 t.block, .int .i64 t.stamp] 51)).cell? ⟨wr.heap.size, 1, none⟩ = some (.bool t.dirty) by rw [HTK.out.cell]; rfl)
            have e2 := CalmW.cell (show (wr.alloc (.cells #[.bool t.valid, .bool t.dirty, .int .i64 t.block, .int .i64 t.stamp] 51)).cell? ⟨wr.heap.size, 2, none⟩ = some (.int .i64 t.block) by rw [HTK.out.cell]; rfl)
            have e3 := CalmW.cell (show (wr.alloc (.cells #[.bool t.valid, .bool t.dirty, .int .i64 t.block, .int .i64 t.stamp] 51)).cell? ⟨wr.heap.size, 3, none⟩ = some (.int .i64 t.stamp) by rw [HTK.out.cell]; rfl)
            refine wp_region_calm (by kernel_rfl) (by kernel_rfl) ?_
            repeat (go_big_quiet_step ((go_at_call 41; exact Calls.calm (kind_dirty HQ.out))))
            refine wpQuiet_nil ?_
            rintro _ ⟨n5, rfl⟩
            have HB5 := Lib.hid (HBA.out.trans (n5.ok.mono (by have := HBA.out.size; exact this)))
            have HK5 := Lib.hid (HBB.out.below n5.ok (Blk.lt HBB.out))
            clear e0 e1 e2 e3 e4 e5
            generalize n5.w = w5 at *
            go_wp2_with fail
            go_roundw
            case rel => exact ⟨k + 1, by omega, by go_num, by rw [HN.out, HK0.out]; rfl, HK5.out, HB5.out⟩
            case measure => simp [intOf]; omega
    · obtain rfl : k = l.length := by omega
      have HE := Lib.hid (show i = optI (leastK pDirty l l.length) by rw [← HI.out]; rfl)
      go_wp2_with fail
      go_ret
      exact ⟨by rw [HE.out]; rfl, HB.out⟩

set_option maxRecDepth 100000 in
theorem kind_clean {t : Sl} {w : World} {q : Bool} (hq : pClean t = q) :
    Calls Try.prog 45 #[.agg #[.bool t.valid, .bool t.dirty, .int .i64 t.block, .int .i64 t.stamp]] w (Ret (.bool q) w) := by
  subst hq
  obtain ⟨va, di, bl, sp⟩ := t
  cases di with
  | false =>
    go_enter Try.func45, Try.ntmps45
    go_wp2_with fail
    go_ret
    exact ⟨rfl, (Below.refl _ _).al _⟩
  | true =>
    go_enter Try.func45, Try.ntmps45
    go_wp2_with fail
    go_ret
    exact ⟨rfl, (Below.refl _ _).al _⟩

set_option maxRecDepth 100000 in
set_option maxHeartbeats 4000000 in
theorem least_clean {st : St} {a bb : Value} {w : World} (h : SV w w.heap.size st a bb) (hl : st.slots.length ≤ 1000000) {i : Int} (hi : leastI pClean st.slots = i) :
    Calls Try.prog 40 #[.agg #[a, .int .i64 st.clock, bb], .func (.func 45) #[] #[]] w (Ret (.int .i64 i) w) := by
  obtain ⟨l, clock, missed⟩ := st
  obtain ⟨⟨A1, c1, e1, hs1, _⟩, ⟨A2, c2, e2, hr2, _⟩⟩ := h
  subst e1 e2
  simp only at hs1 hr2 hi hl ⊢
  have HR := Lib.hid hs1
  have HI := Lib.hid hi
  clear hs1 hr2 hi
  go_enter Try.func40, Try.ntmps40
  go_wp2_with fail
  go_loopw [5, 11] (fun u v wr => ∃ k : Nat, k ≤ l.length ∧ v = .int .i64 (k : Int) ∧ u = .int .i64 (optI (leastK pClean l k)) ∧ Blk wr w.heap.size 25 #[.slice A1 l.length c1, .int .i64 clock, .slice A2 missed.length c2] ∧ Below w.heap.size w wr) (fun _ v _ => l.length - (intOf v).toNat)
  case atStart => exact ⟨0, by omega, rfl, rfl, Blk.new _ _ _, (Below.refl _ _).al _⟩
  case round =>
    obtain ⟨k, hk, rfl, rfl, hbk, hbw⟩ := hrel
    have HB := Lib.hid hbw
    have HBK := Lib.hid hbk
    have d0 : wr.cell? ⟨w.heap.size, 0, none⟩ = some (.slice A1 l.length c1) := by rw [hbk.cell]; rfl
    have d1 : wr.cell? ⟨w.heap.size, 1, none⟩ = some (.int .i64 clock) := by rw [hbk.cell]; rfl
    have d2 : wr.cell? ⟨w.heap.size, 2, none⟩ = some (.slice A2 missed.length c2) := by rw [hbk.cell]; rfl
    have hzl := hbk.lt
    clear hbk hbw
    by_cases hlt : k < l.length
    · have j0 : (k : Int) < (l.length : Int) := by omega
      obtain ⟨g, t, rfl, hg, ht, hf⟩ := (HR.out.below HB.out (Nat.le_refl _)).at_ hlt
      have HT := Lib.hid ht
      obtain ⟨a0, a1, a2, a3⟩ := hf
      clear ht
      have HBA := Lib.hid (HB.out.al (.cells #[.bool t.valid, .bool t.dirty, .int .i64 t.block, .int .i64 t.stamp] 51))
      have HTK := Lib.hid (Blk.new wr 51 #[.bool t.valid, .bool t.dirty, .int .i64 t.block, .int .i64 t.stamp])
      have HBB := Lib.hid (HBK.out.alloc (.cells #[.bool t.valid, .bool t.dirty, .int .i64 t.block, .int .i64 t.stamp] 51))
      cases hq : pClean t with
      | false =>
        have HQ := Lib.hid hq
        have HN := Lib.hid (least_keep (p := pClean) HT.out (by rw [hq]; rfl))
        clear hq
        go_wp2_with fail
        have e0 := CalmW.cell (show (wr.alloc (.cells #[.bool t.valid, .bool t.dirty, .int .i64 t.block, .int .i64 t.stamp] 51)).cell? ⟨wr.heap.size, 0, none⟩ = some (.bool t.valid) by rw [HTK.out.cell]; rfl)
        have e1 := CalmW.cell (show (wr.alloc (.cells #[.bool t.valid, .bool t.dirty, .int .i64 t.block, .int .i64 t.stamp] 51)).cell? ⟨wr.heap.size, 1, none⟩ = some (.bool t.dirty) by rw [HTK.out.cell]; rfl)
        have e2 := CalmW.cell (show (wr.alloc (.cells #[.bool t.valid, .bool t.dirty, .int .i64 t.block, .int .i64 t.stamp] 51)).cell? ⟨wr.heap.size, 2, none⟩ = some (.int .i64 t.block) by rw [HTK.out.cell]; rfl)
        have e3 := CalmW.cell (show (wr.alloc (.cells #[.bool t.valid, .bool t.dirty, .int .i64 t.block, .int .i64 t.stamp] 51)).cell? ⟨wr.heap.size, 3, none⟩ = some (.int .i64 t.stamp) by rw [HTK.out.cell]; rfl)
        refine wp_region_calm (by kernel_rfl) (by kernel_rfl) ?_
        repeat (go_big_quiet_step ((go_at_call 45; exact Calls.calm (kind_clean HQ.out))))
        refine wpQuiet_nil ?_
        rintro _ ⟨n5, rfl⟩
        have HB5 := Lib.hid (HBA.out.trans (n5.ok.mono (by have := HBA.out.size; exact this)))
        have HK5 := Lib.hid (HBB.out.below n5.ok (Blk.lt HBB.out))
        clear e0 e1 e2 e3
        generalize n5.w = w5 at *
        go_wp2_with fail
        go_roundw
        case rel => exact ⟨k + 1, by omega, by go_num, by rw [HN.out], HK5.out, HB5.out⟩
        case measure => simp [intOf]; omega
      | true =>
        have HQ := Lib.hid hq
        cases hk0 : leastK pClean l k with
        | none =>
          have HN := Lib.hid (least_take (p := pClean) HT.out (by rw [hq, hk0]; rfl))
          have hm1 : optI none = -1 := rfl
          clear hq hk0
          go_wp2_with fail
          have e0 := CalmW.cell (show (wr.alloc (.cells #[.bool t.valid, .bool t.dirty, .int .i64 t.block, .int .i64 t.stamp] 51)).cell? ⟨wr.heap.size, 0, none⟩ = some (.bool t.valid) by rw [HTK.out.cell]; rfl)
          have e1 := CalmW.cell (show (wr.alloc (.cells #[.bool t.valid, .bool t.dirty, .int .i64 t.block, .int .i64 t.stamp] 51)).cell? ⟨wr.heap.size, 1, none⟩ = some (.bool t.dirty) by rw [HTK.out.cell]; rfl)
          have e2 := CalmW.cell (show (wr.alloc (.cells #[.bool t.valid, .bool t.dirty, .int .i64 t.block, .int .i64 t.stamp] 51)).cell? ⟨wr.heap.size, 2, none⟩ = some (.int .i64 t.block) by rw [HTK.out.cell]; rfl)
          have e3 := CalmW.cell (show (wr.alloc (.cells #[.bool t.valid, .bool t.dirty, .int .i64 t.block, .int .i64 t.stamp] 51)).cell? ⟨wr.heap.size, 3, none⟩ = some (.int .i64 t.stamp) by rw [HTK.out.cell]; rfl)
          refine wp_region_calm (by kernel_rfl) (by kernel_rfl) ?_
          repeat (go_big_quiet_step ((go_at_call 45; exact Calls.calm (kind_clean HQ.out))))
          refine wpQuiet_nil ?_
          rintro _ ⟨n5, rfl⟩
          have HB5 := Lib.hid (HBA.out.trans (n5.ok.mono (by have := HBA.out.size; exact this)))
          have HK5 := Lib.hid (HBB.out.below n5.ok (Blk.lt HBB.out))
          clear e0 e1 e2 e3
          generalize n5.w = w5 at *
          go_wp2_with fail
          go_roundw
          case rel => exact ⟨k + 1, by omega, by go_num, by rw [HN.out]; rfl, HK5.out, HB5.out⟩
          case measure => simp [intOf]; omega
        | some j =>
          have hjk := least_lt _ _ _ _ hk0
          have hjl : j < l.length := by omega
          have hm1 : optI (some j) = (j : Int) := rfl
          have hm2 : decide ((j : Int) < 0) = false := decide_eq_false (by omega)
          have j2 : (j : Int) < (l.length : Int) := by omega
          obtain ⟨g', u, eg, hg', hu, hfu⟩ := (HR.out.below HBA.out (Nat.le_refl _)).at_ hjl
          injection eg with eg
          injection eg with eg
          subst eg
          have e4 := CalmW.cell hfu.c3
          have HU := Lib.hid hu
          have e5 := CalmW.cell (show (wr.alloc (.cells #[.bool t.valid, .bool t.dirty, .int .i64 t.block, .int .i64 t.stamp] 51)).cell? ⟨w.heap.size, 0, none⟩ = some (.slice (some ⟨g, 0, none⟩) l.length c1) by rw [HBB.out.cell]; rfl)
          have h0j : (0 : Int) ≤ (j : Int) := by omega
          clear hfu hu
          by_cases hsu : t.stamp < u.stamp
          · have HN := Lib.hid (least_take (p := pClean) HT.out (by rw [hq, hk0]; unfold lessB; simp only [HU.out]; simpa using hsu))
            have hsd : decide (t.stamp < u.stamp) = true := decide_eq_true hsu
            clear hq hk0 hjk
            go_wp2_with fail
            have e0 := CalmW.cell (show (wr.alloc (.cells #[.bool t.valid, .bool t.dirty, .int .i64 t.block, .int .i64 t.stamp] 51)).cell? ⟨wr.heap.size, 0, none⟩ = some (.bool t.valid) by rw [HTK.out.cell]; rfl)
            have e1 := CalmW.cell (show (wr.alloc (.cells #[.bool t.valid, .bool t.dirty, .int .i64 t.block, .int .i64 t.stamp] 51)).cell? ⟨wr.heap.size, 1, none⟩ = some (.bool t.dirty) by rw [HTK.out.cell]; rfl)
            have e2 := CalmW.cell (show (wr.alloc (.cells #[.bool t.valid, .bool t.dirty, .int .i64 t.block, .int .i64 t.stamp] 51)).cell? ⟨wr.heap.size, 2, none⟩ = some (.int .i64 t.block) by rw [HTK.out.cell]; rfl)
            have e3 := CalmW.cell (show (wr.alloc (.cells #[.bool t.valid, .bool t.dirty, .int .i64 t.block, .int .i64 t.stamp] 51)).cell? ⟨wr.heap.size, 3, none⟩ = some (.int .i64 t.stamp) by rw [HTK.out.cell]; rfl)
            refine wp_region_calm (by kernel_rfl) (by kernel_rfl) ?_
            repeat (go_big_quiet_step ((go_at_call 45; exact Calls.calm (kind_clean HQ.out))))
            refine wpQuiet_nil ?_
            rintro _ ⟨n5, rfl⟩
            have HB5 := Lib.hid (HBA.out.trans (n5.ok.mono (by have := HBA.out.size; exact this)))
            have HK5 := Lib.hid (HBB.out.below n5.ok (Blk.lt HBB.out))
            clear e0 e1 e2 e3 e4 e5
            generalize n5.w = w5 at *
            go_wp2_with fail
            go_roundw
            case rel => exact ⟨k + 1, by omega, by go_num, by rw [HN.out]; rfl, HK5.out, HB5.out⟩
            case measure => simp [intOf]; omega
          · have HN := Lib.hid (least_keep (p := pClean) HT.out (by rw [hq, hk0]; unfold lessB; simp only [HU.out]; simpa using hsu))
            have HK0 := Lib.hid hk0
            have hsd : decide (t.stamp < u.stamp) = false := decide_eq_false hsu
            clear hq hk0 hjk
            go_wp2_with fail
            have e0 := CalmW.cell (show (wr.alloc (.cells #[.bool t.valid, .bool t.dirty, .int .i64 t.block, .int .i64 t.stamp] 51)).cell? ⟨wr.heap.size, 0, none⟩ = some (.bool t.valid) by rw [HTK.out.cell]; rfl)
            have e1 := CalmW.cell (show (wr.alloc (.cells #[.bool t.valid, .bool t.dirty, .int .i64 t.block, .int .i64 t.stamp] 51)).cell? ⟨wr.heap.size, 1, none⟩ = some (.bool t.dirty) by rw [HTK.out.cell]; rfl)
            have e2 := CalmW.cell (show (wr.alloc (.cells #[.bool t.valid, .bool t.dirty, .int .i64 t.block, .int .i64 t.stamp] 51)).cell? ⟨wr.heap.size, 2, none⟩ = some (.int .i64 t.block) by rw [HTK.out.cell]; rfl)
            have e3 := CalmW.cell (show (wr.alloc (.cells #[.bool t.valid, .bool t.dirty, .int .i64 t.block, .int .i64 t.stamp] 51)).cell? ⟨wr.heap.size, 3, none⟩ = some (.int .i64 t.stamp) by rw [HTK.out.cell]; rfl)
            refine wp_region_calm (by kernel_rfl) (by kernel_rfl) ?_
            repeat (go_big_quiet_step ((go_at_call 45; exact Calls.calm (kind_clean HQ.out))))
            refine wpQuiet_nil ?_
            rintro _ ⟨n5, rfl⟩
            have HB5 := Lib.hid (HBA.out.trans (n5.ok.mono (by have := HBA.out.size; exact this)))
            have HK5 := Lib.hid (HBB.out.below n5.ok (Blk.lt HBB.out))
            clear e0 e1 e2 e3 e4 e5
            generalize n5.w = w5 at *
            go_wp2_with fail
            go_roundw
            case rel => exact ⟨k + 1, by omega, by go_num, by rw [HN.out, HK0.out]; rfl, HK5.out, HB5.out⟩
            case measure => simp [intOf]; omega
    · obtain rfl : k = l.length := by omega
      have HE := Lib.hid (show i = optI (leastK pClean l l.length) by rw [← HI.out]; rfl)
      go_wp2_with fail
      go_ret
      exact ⟨by rw [HE.out]; rfl, HB.out⟩

set_option maxRecDepth 100000 in
theorem kind_all {t : Sl} {w : World} {q : Bool} (hq : pAll t = q) :
    Calls Try.prog 46 #[.agg #[.bool t.valid, .bool t.dirty, .int .i64 t.block, .int .i64 t.stamp]] w (Ret (.bool q) w) := by
  subst hq
  obtain ⟨va, di, bl, sp⟩ := t
  cases di with
  | false =>
    go_enter Try.func46, Try.ntmps46
    go_wp2_with fail
    go_ret
    exact ⟨rfl, (Below.refl _ _).al _⟩
  | true =>
    go_enter Try.func46, Try.ntmps46
    go_wp2_with fail
    go_ret
    exact ⟨rfl, (Below.refl _ _).al _⟩

set_option maxRecDepth 100000 in
set_option maxHeartbeats 4000000 in
theorem least_all {st : St} {a bb : Value} {w : World} (h : SV w w.heap.size st a bb) (hl : st.slots.length ≤ 1000000) {i : Int} (hi : leastI pAll st.slots = i) :
    Calls Try.prog 40 #[.agg #[a, .int .i64 st.clock, bb], .func (.func 46) #[] #[]] w (Ret (.int .i64 i) w) := by
  obtain ⟨l, clock, missed⟩ := st
  obtain ⟨⟨A1, c1, e1, hs1, _⟩, ⟨A2, c2, e2, hr2, _⟩⟩ := h
  subst e1 e2
  simp only at hs1 hr2 hi hl ⊢
  have HR := Lib.hid hs1
  have HI := Lib.hid hi
  clear hs1 hr2 hi
  go_enter Try.func40, Try.ntmps40
  go_wp2_with fail
  go_loopw [5, 11] (fun u v wr => ∃ k : Nat, k ≤ l.length ∧ v = .int .i64 (k : Int) ∧ u = .int .i64 (optI (leastK pAll l k)) ∧ Blk wr w.heap.size 25 #[.slice A1 l.length c1, .int .i64 clock, .slice A2 missed.length c2] ∧ Below w.heap.size w wr) (fun _ v _ => l.length - (intOf v).toNat)
  case atStart => exact ⟨0, by omega, rfl, rfl, Blk.new _ _ _, (Below.refl _ _).al _⟩
  case round =>
    obtain ⟨k, hk, rfl, rfl, hbk, hbw⟩ := hrel
    have HB := Lib.hid hbw
    have HBK := Lib.hid hbk
    have d0 : wr.cell? ⟨w.heap.size, 0, none⟩ = some (.slice A1 l.length c1) := by rw [hbk.cell]; rfl
    have d1 : wr.cell? ⟨w.heap.size, 1, none⟩ = some (.int .i64 clock) := by rw [hbk.cell]; rfl
    have d2 : wr.cell? ⟨w.heap.size, 2, none⟩ = some (.slice A2 missed.length c2) := by rw [hbk.cell]; rfl
    have hzl := hbk.lt
    clear hbk hbw
    by_cases hlt : k < l.length
    · have j0 : (k : Int) < (l.length : Int) := by omega
      obtain ⟨g, t, rfl, hg, ht, hf⟩ := (HR.out.below HB.out (Nat.le_refl _)).at_ hlt
      have HT := Lib.hid ht
      obtain ⟨a0, a1, a2, a3⟩ := hf
      clear ht
      have HBA := Lib.hid (HB.out.al (.cells #[.bool t.valid, .bool t.dirty, .int .i64 t.block, .int .i64 t.stamp] 51))
      have HTK := Lib.hid (Blk.new wr 51 #[.bool t.valid, .bool t.dirty, .int .i64 t.block, .int .i64 t.stamp])
      have HBB := Lib.hid (HBK.out.alloc (.cells #[.bool t.valid, .bool t.dirty, .int .i64 t.block, .int .i64 t.stamp] 51))
      cases hq : pAll t with
      | false =>
        have HQ := Lib.hid hq
        have HN := Lib.hid (least_keep (p := pAll) HT.out (by rw [hq]; rfl))
        clear hq
        go_wp2_with fail
        have e0 := CalmW.cell (show (wr.alloc (.cells #[.bool t.valid, .bool t.dirty, .int .i64 t.block, .int .i64 t.stamp] 51)).cell? ⟨wr.heap.size, 0, none⟩ = some (.bool t.valid) by rw [HTK.out.cell]; rfl)
        have e1 := CalmW.cell (show (wr.alloc (.cells #[.bool t.valid, .bool t.dirty, .int .i64 t.block, .int .i64 t.stamp] 51)).cell? ⟨wr.heap.size, 1, none⟩ = some (.bool t.dirty) by rw [HTK.out.cell]; rfl)
        have e2 := CalmW.cell (show (wr.alloc (.cells #[.bool t.valid, .bool t.dirty, .int .i64 t.block, .int .i64 t.stamp] 51)).cell? ⟨wr.heap.size, 2, none⟩ = some (.int .i64 t.block) by rw [HTK.out.cell]; rfl)
        have e3 := CalmW.cell (show (wr.alloc (.cells #[.bool t.valid, .bool t.dirty, .int .i64 t.block, .int .i64 t.stamp] 51)).cell? ⟨wr.heap.size, 3, none⟩ = some (.int .i64 t.stamp) by rw [HTK.out.cell]; rfl)
        refine wp_region_calm (by kernel_rfl) (by kernel_rfl) ?_
        repeat (go_big_quiet_step ((go_at_call 46; exact Calls.calm (kind_all HQ.out))))
        refine wpQuiet_nil ?_
        rintro _ ⟨n5, rfl⟩
        have HB5 := Lib.hid (HBA.out.trans (n5.ok.mono (by have := HBA.out.size; exact this)))
        have HK5 := Lib.hid (HBB.out.below n5.ok (Blk.lt HBB.out))
        clear e0 e1 e2 e3
        generalize n5.w = w5 at *
        go_wp2_with fail
        go_roundw
        case rel => exact ⟨k + 1, by omega, by go_num, by rw [HN.out], HK5.out, HB5.out⟩
        case measure => simp [intOf]; omega
      | true =>
        have HQ := Lib.hid hq
        cases hk0 : leastK pAll l k with
        | none =>
          have HN := Lib.hid (least_take (p := pAll) HT.out (by rw [hq, hk0]; rfl))
          have hm1 : optI none = -1 := rfl
          clear hq hk0
          go_wp2_with fail
          have e0 := CalmW.cell (show (wr.alloc (.cells #[.bool t.valid, .bool t.dirty, .int .i64 t.block, .int .i64 t.stamp] 51)).cell? ⟨wr.heap.size, 0, none⟩ = some (.bool t.valid) by rw [HTK.out.cell]; rfl)
          have e1 := CalmW.cell (show (wr.alloc (.cells #[.bool t.valid, .bool t.dirty, .int .i64 t.block, .int .i64 t.stamp] 51)).cell? ⟨wr.heap.size, 1, none⟩ = some (.bool t.dirty) by rw [HTK.out.cell]; rfl)
          have e2 := CalmW.cell (show (wr.alloc (.cells #[.bool t.valid, .bool t.dirty, .int .i64 t.block, .int .i64 t.stamp] 51)).cell? ⟨wr.heap.size, 2, none⟩ = some (.int .i64 t.block) by rw [HTK.out.cell]; rfl)
          have e3 := CalmW.cell (show (wr.alloc (.cells #[.bool t.valid, .bool t.dirty, .int .i64 t.block, .int .i64 t.stamp] 51)).cell? ⟨wr.heap.size, 3, none⟩ = some (.int .i64 t.stamp) by rw [HTK.out.cell]; rfl)
          refine wp_region_calm (by kernel_rfl) (by kernel_rfl) ?_
          repeat (go_big_quiet_step ((go_at_call 46; exact Calls.calm (kind_all HQ.out))))
          refine wpQuiet_nil ?_
          rintro _ ⟨n5, rfl⟩
          have HB5 := Lib.hid (HBA.out.trans (n5.ok.mono (by have := HBA.out.size; exact this)))
          have HK5 := Lib.hid (HBB.out.below n5.ok (Blk.lt HBB.out))
          clear e0 e1 e2 e3
          generalize n5.w = w5 at *
          go_wp2_with fail
          go_roundw
          case rel => exact ⟨k + 1, by omega, by go_num, by rw [HN.out]; rfl, HK5.out, HB5.out⟩
          case measure => simp [intOf]; omega
        | some j =>
          have hjk := least_lt _ _ _ _ hk0
          have hjl : j < l.length := by omega
          have hm1 : optI (some j) = (j : Int) := rfl
          have hm2 : decide ((j : Int) < 0) = false := decide_eq_false (by omega)
          have j2 : (j : Int) < (l.length : Int) := by omega
          obtain ⟨g', u, eg, hg', hu, hfu⟩ := (HR.out.below HBA.out (Nat.le_refl _)).at_ hjl
          injection eg with eg
          injection eg with eg
          subst eg
          have e4 := CalmW.cell hfu.c3
          have HU := Lib.hid hu
          have e5 := CalmW.cell (show (wr.alloc (.cells #[.bool t.valid, .bool t.dirty, .int .i64 t.block, .int .i64 t.stamp] 51)).cell? ⟨w.heap.size, 0, none⟩ = some (.slice (some ⟨g, 0, none⟩) l.length c1) by rw [HBB.out.cell]; rfl)
          have h0j : (0 : Int) ≤ (j : Int) := by omega
          clear hfu hu
          by_cases hsu : t.stamp < u.stamp
          · have HN := Lib.hid (least_take (p := pAll) HT.out (by rw [hq, hk0]; unfold lessB; simp only [HU.out]; simpa using hsu))
            have hsd : decide (t.stamp < u.stamp) = true := decide_eq_true hsu
            clear hq hk0 hjk
            go_wp2_with fail
            have e0 := CalmW.cell (show (wr.alloc (.cells #[.bool t.valid, .bool t.dirty, .int .i64 t.block, .int .i64 t.stamp] 51)).cell? ⟨wr.heap.size, 0, none⟩ = some (.bool t.valid) by rw [HTK.out.cell]; rfl)
            have e1 := CalmW.cell (show (wr.alloc (.cells #[.bool t.valid, .bool t.dirty, .int .i64 t.block, .int .i64 t.stamp] 51)).cell? ⟨wr.heap.size, 1, none⟩ = some (.bool t.dirty) by rw [HTK.out.cell]; rfl)
            have e2 := CalmW.cell (show (wr.alloc (.cells #[.bool t.valid, .bool t.dirty, .int .i64 t.block, .int .i64 t.stamp] 51)).cell? ⟨wr.heap.size, 2, none⟩ = some (.int .i64 t.block) by rw [HTK.out.cell]; rfl)
            have e3 := CalmW.cell (show (wr.alloc (.cells #[.bool t.valid, .bool t.dirty, .int .i64 t.block, .int .i64 t.stamp] 51)).cell? ⟨wr.heap.size, 3, none⟩ = some (.int .i64 t.stamp) by rw [HTK.out.cell]; rfl)
            refine wp_region_calm (by kernel_rfl) (by kernel_rfl) ?_
            repeat (go_big_quiet_step ((go_at_call 46; exact Calls.calm (kind_all HQ.out))))
            refine wpQuiet_nil ?_
            rintro _ ⟨n5, rfl⟩
            have HB5 := Lib.hid (HBA.out.trans (n5.ok.mono (by have := HBA.out.size; exact this)))
            have HK5 := Lib.hid (HBB.out.below n5.ok (Blk.lt HBB.out))
            clear e0 e1 e2 e3 e4 e5
            generalize n5.w = w5 at *
            go_wp2_with fail
            go_roundw
            case rel => exact ⟨k + 1, by omega, by go_num, by rw [HN.out]; rfl, HK5.out, HB5.out⟩
            case measure => simp [intOf]; omega
          · have HN := Lib.hid (least_keep (p := pAll) HT.out (by rw [hq, hk0]; unfold lessB; simp only [HU.out]; simpa using hsu))
            have HK0 := Lib.hid hk0
            have hsd : decide (t.stamp < u.stamp) = false := decide_eq_false hsu
            clear hq hk0 hjk
            go_wp2_with fail
            have e0 := CalmW.cell (show (wr.alloc (.cells #[.bool t.valid, .bool t.dirty, .int .i64 t.block, .int .i64 t.stamp] 51)).cell? ⟨wr.heap.size, 0, none⟩ = some (.bool t.valid) by rw [HTK.out.cell]; rfl)
            have e1 := CalmW.cell (show (wr.alloc (.cells #[.bool t.valid, .bool t.dirty, .int .i64 t.block, .int .i64 t.stamp] 51)).cell? ⟨wr.heap.size, 1, none⟩ = some (.bool t.dirty) by rw [HTK.out.cell]; rfl)
            have e2 := CalmW.cell (show (wr.alloc (.cells #[.bool t.valid, .bool t.dirty, .int .i64 t.block, .int .i64 t.stamp] 51)).cell? ⟨wr.heap.size, 2, none⟩ = some (.int .i64 t.block) by rw [HTK.out.cell]; rfl)
            have e3 := CalmW.cell (show (wr.alloc (.cells #[.bool t.valid, .bool t.dirty, .int .i64 t.block, .int .i64 t.stamp] 51)).cell? ⟨wr.heap.size, 3, none⟩ = some (.int .i64 t.stamp) by rw [HTK.out.cell]; rfl)
            refine wp_region_calm (by kernel_rfl) (by kernel_rfl) ?_
            repeat (go_big_quiet_step ((go_at_call 46; exact Calls.calm (kind_all HQ.out))))
            refine wpQuiet_nil ?_
            rintro _ ⟨n5, rfl⟩
            have HB5 := Lib.hid (HBA.out.trans (n5.ok.mono (by have := HBA.out.size; exact this)))
            have HK5 := Lib.hid (HBB.out.below n5.ok (Blk.lt HBB.out))
            clear e0 e1 e2 e3 e4 e5
            generalize n5.w = w5 at *
            go_wp2_with fail
            go_roundw
            case rel => exact ⟨k + 1, by omega, by go_num, by rw [HN.out, HK0.out]; rfl, HK5.out, HB5.out⟩
            case measure => simp [intOf]; omega
    · obtain rfl : k = l.length := by omega
      have HE := Lib.hid (show i = optI (leastK pAll l l.length) by rw [← HI.out]; rfl)
      go_wp2_with fail
      go_ret
      exact ⟨by rw [HE.out]; rfl, HB.out⟩
end Go.Proofs.Ytmmdckijokiomaa
