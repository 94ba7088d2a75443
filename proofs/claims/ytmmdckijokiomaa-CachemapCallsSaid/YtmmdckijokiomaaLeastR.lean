/- The reference's least (printed by genLeastR.py). -/
import Derived.Test.YtmmdckijokiomaaLeast
namespace Go.Proofs.Ytmmdckijokiomaa
open Go.RowKit

def rDirty (d : Bool) (t : Sl) : Bool := t.valid && (t.dirty == d)

set_option maxRecDepth 100000 in
set_option maxHeartbeats 8000000 in
theorem rleast_any {st : St} {a bb : Value} {d : Bool} {w : World} (h : SV w w.heap.size st a bb) (hl : st.slots.length ≤ 1000000) {i : Int} (hi : leastI (rDirty d) st.slots = i) :
    Calls Try.prog 42 #[.agg #[a, .int .i64 st.clock, bb], .bool d] w (Ret (.int .i64 i) w) := by
  obtain ⟨l, clock, missed⟩ := st
  obtain ⟨⟨A1, c1, e1, hs1, _⟩, ⟨A2, c2, e2, hr2, _⟩⟩ := h
  subst e1 e2
  simp only at hs1 hr2 hi hl ⊢
  have HR := Lib.hid hs1
  have HI := Lib.hid hi
  clear hs1 hr2 hi
  go_enter Try.func42, Try.ntmps42
  go_wp2_with fail
  go_loopw [5, 6] (fun u v wr => ∃ k : Nat, k ≤ l.length ∧ v = .int .i64 (k : Int) ∧ u = .int .i64 (optI (leastK (rDirty d) l k)) ∧ Blk wr w.heap.size 25 #[.slice A1 l.length c1, .int .i64 clock, .slice A2 missed.length c2] ∧ Below w.heap.size w wr) (fun _ v _ => l.length - (intOf v).toNat)
  case atStart => exact ⟨0, by omega, rfl, rfl, Blk.new _ _ _, (Below.refl _ _).al _⟩
  case round =>
    obtain ⟨k, hk, rfl, rfl, hbk, hbw⟩ := hrel
    have HB := Lib.hid hbw
    have HBK := Lib.hid hbk
    have d0 : wr.cell? ⟨w.heap.size, 0, none⟩ = some (.slice A1 l.length c1) := by rw [hbk.cell]; rfl
    clear hbk hbw
    by_cases hlt : k < l.length
    case neg =>
      obtain rfl : k = l.length := by omega
      have HE := Lib.hid (show i = optI (leastK (rDirty d) l l.length) by rw [← HI.out]; rfl)
      go_wp2_with fail
      go_ret
      exact ⟨by rw [HE.out]; rfl, HB.out⟩
    have j0 : (k : Int) < (l.length : Int) := by omega
    have j1 : (0 : Int) ≤ (k : Int) := by omega
    obtain ⟨g, t, rfl, hg, ht, hf⟩ := (HR.out.below HB.out (Nat.le_refl _)).at_ hlt
    have HT := Lib.hid ht
    obtain ⟨a0, a1, a2, a3⟩ := hf
    obtain ⟨va, di, bl, sp⟩ := t
    simp only at a0 a1 a2 a3
    clear ht
    cases va with
    | false =>
      have HN := Lib.hid (least_keep (p := rDirty d) HT.out (by rfl))
      go_wp2_with fail
      go_quiet (fail)
      have HBQ := Lib.hid (below_drewN HB.out nq)
      have HKQ := Lib.hid (HBK.out.drewN nq)
      go_wp2_with fail
      exact ⟨⟨k + 1, by omega, by go_num, by rw [HN.out], HKQ.out, HBQ.out⟩, by simp [intOf]; omega⟩
    | true =>
      by_cases hd : di = d
      case neg =>
        have hq : (di == d) = false := beq_eq_false_iff_ne.2 hd
        have HN := Lib.hid (least_keep (p := rDirty d) HT.out (by show ((true && (di == d)) && _) = false; rw [hq]; rfl))
        go_wp2_with fail
        go_quiet (fail)
        have HBQ := Lib.hid (below_drewN HB.out nq)
        have HKQ := Lib.hid (HBK.out.drewN nq)
        go_wp2_with fail
        exact ⟨⟨k + 1, by omega, by go_num, by rw [HN.out], HKQ.out, HBQ.out⟩, by simp [intOf]; omega⟩
      subst hd
      have HQ := Lib.hid (show rDirty di ⟨true, di, bl, sp⟩ = true by unfold rDirty; simp)
      cases hk0 : leastK (rDirty di) l k with
      | none =>
        have HN := Lib.hid (least_take (p := rDirty di) HT.out (by rw [HQ.out, hk0]; rfl))
        have hm1 : optI none = -1 := rfl
        clear hk0
        go_wp2_with fail
        go_quiet (fail)
        have HBQ := Lib.hid (below_drewN HB.out nq)
        have HKQ := Lib.hid (HBK.out.drewN nq)
        go_wp2_with fail
        exact ⟨⟨k + 1, by omega, by go_num, by rw [HN.out]; rfl, HKQ.out, HBQ.out⟩, by simp [intOf]; omega⟩
      | some j =>
        have hjk := least_lt _ _ _ _ hk0
        have hjl : j < l.length := by omega
        have hm1 : optI (some j) = (j : Int) := rfl
        have hm2 : decide ((j : Int) < 0) = false := decide_eq_false (by omega)
        have j2 : (j : Int) < (l.length : Int) := by omega
        have j3 : (0 : Int) ≤ (j : Int) := by omega
        obtain ⟨g', u, eg, hg', hu, hfu⟩ := (HR.out.below HB.out (Nat.le_refl _)).at_ hjl
        injection eg with eg
        injection eg with eg
        subst eg
        have e4 := hfu.c3
        have HU := Lib.hid hu
        clear hfu hu
        by_cases hsu : sp < u.stamp
        · have HN := Lib.hid (least_take (p := rDirty di) HT.out (by rw [HQ.out, hk0]; unfold lessB; simp only [HU.out]; simpa using hsu))
          have hsd : decide (sp < u.stamp) = true := decide_eq_true hsu
          clear hk0 hjk
          go_wp2_with fail
          go_quiet (fail)
          have HBQ := Lib.hid (below_drewN HB.out nq)
          have HKQ := Lib.hid (HBK.out.drewN nq)
          go_wp2_with fail
          exact ⟨⟨k + 1, by omega, by go_num, by rw [HN.out]; rfl, HKQ.out, HBQ.out⟩, by simp [intOf]; omega⟩
        · have HN := Lib.hid (least_keep (p := rDirty di) HT.out (by rw [HQ.out, hk0]; unfold lessB; simp only [HU.out]; simpa using hsu))
          have HK0 := Lib.hid hk0
          have hsd : decide (sp < u.stamp) = false := decide_eq_false hsu
          clear hk0 hjk
          go_wp2_with fail
          go_quiet (fail)
          have HBQ := Lib.hid (below_drewN HB.out nq)
          have HKQ := Lib.hid (HBK.out.drewN nq)
          go_wp2_with fail
          exact ⟨⟨k + 1, by omega, by go_num, by rw [HN.out, HK0.out]; rfl, HKQ.out, HBQ.out⟩, by simp [intOf]; omega⟩
end Go.Proofs.Ytmmdckijokiomaa
