/- slot; the entry of a call. -/
import Derived.Test.YtmmdckijokiomaaOps
namespace Go.Proofs.Ytmmdckijokiomaa
open Go.RowKit

theorem valid0 {st : St} (h : validB st = true) : validE st = 0 := by unfold validE; rw [if_pos h]
theorem valid2 {st : St} (h : validB st = false) : validE st = 2 := by unfold validE; rw [if_neg (by rw [h]; exact Bool.false_ne_true)]
theorem valid_small {st : St} (h : validB st = true) : st.slots.length ≤ 1024 ∧ st.missed.length ≤ 1024 ∧ 0 ≤ st.clock ∧ st.clock ≤ 1099511627776 ∧ st.missed.length ≤ 8 ∧ 1 ≤ st.slots.length := by
  have := head_iff.1 (valid_head2 h)
  omega

set_option maxRecDepth 100000 in
set_option maxHeartbeats 4000000 in
theorem slot_any {st : St} {a bb : Value} {k : Int} {w : World} (h : SV w w.heap.size st a bb) :
    Calls Try.prog 47 #[.agg #[a, .int .i64 st.clock, bb], .int .i64 k] w (Ret (.int .i64 (slotE st k)) w) := by
  have hbx := (Below.refl w.heap.size w).al (.cells #[a, .int .i64 st.clock, bb] 25)
  have hval := valid_any (h.up hbx)
  have HB0 := Lib.hid hbx
  rcases slotE_cases st k with ⟨hv, he⟩ | ⟨hv, hi, he⟩ | ⟨hv, hi, he, i, t, hki, hil, hti⟩
  · rw [valid2 hv] at hval
    rw [he]
    have HV := Lib.hid hval
    obtain ⟨slots, clock, missed⟩ := st
    obtain ⟨⟨A1, c1, e1, hs1, _⟩, ⟨A2, c2, e2, hr2, _⟩⟩ := h
    subst e1 e2
    clear hval hv hbx hs1 hr2 he
    go_enter Try.func47, Try.ntmps47
    go_wp2_with fail
    refine HV.out.mono ?_
    rintro e w5 ⟨rfl, hb5⟩
    have HB5 := Lib.hid (HB0.out.next hb5)
    clear hb5
    go_wp2_with fail
    go_ret
    exact ⟨rfl, HB5.out⟩
  all_goals
    rw [valid0 hv] at hval
    rw [he]
    have HV := Lib.hid hval
    obtain ⟨slots, clock, missed⟩ := st
    obtain ⟨⟨A1, c1, e1, hs1, _⟩, ⟨A2, c2, e2, hr2, _⟩⟩ := h
    subst e1 e2
    have HBK := Lib.hid (Blk.new w 25 #[.slice A1 slots.length c1, .int .i64 clock, .slice A2 missed.length c2])
    have HSM := Lib.hid (valid_small hv)
  · have hk : k < 0 ∨ (0 ≤ k ∧ (slots.length : Int) ≤ k) := by
      unfold inB at hi
      simp at hi
      omega
    clear hval hv hbx hs1 hr2 he hi
    rcases hk with hk | ⟨hk0, hk⟩
    all_goals
      go_enter Try.func47, Try.ntmps47
      go_wp2_with fail
      refine HV.out.mono ?_
      rintro e w5 ⟨rfl, hb5⟩
      have HB5 := Lib.hid (HB0.out.next hb5)
      have hk5 := HBK.out.below hb5 (by simp)
      have d0 : w5.cell? ⟨w.heap.size, 0, none⟩ = some (.slice A1 slots.length c1) := by rw [hk5.cell]; rfl
      clear hb5 hk5
      go_wp2_with fail
      go_ret
      exact ⟨rfl, HB5.out⟩
  · subst hki
    have hil : i < slots.length := hil
    have k0 : ¬ (i : Int) < 0 := by omega
    have k1 : ¬ (slots.length : Int) ≤ (i : Int) := by omega
    clear hval hv hbx hs1 hr2 he hi hti
    go_enter Try.func47, Try.ntmps47
    go_wp2_with fail
    refine HV.out.mono ?_
    rintro e w5 ⟨rfl, hb5⟩
    have HB5 := Lib.hid (HB0.out.next hb5)
    have hk5 := HBK.out.below hb5 (by simp)
    have d0 : w5.cell? ⟨w.heap.size, 0, none⟩ = some (.slice A1 slots.length c1) := by rw [hk5.cell]; rfl
    clear hb5 hk5
    go_wp2_with fail
    go_ret
    exact ⟨rfl, HB5.out⟩

/-- the entry of a call: the state that came in, the result -/
theorem entry2 (w : World) (v0 v1 v2 : Value) : E0 w ((w.alloc (.cells #[v0, v1, v2] 25)).alloc (.cells #[.slice none 0 0, .int .i64 0, .slice none 0 0] 25)) w.heap.size (w.heap.size + 1) v0 v1 v2 := by
  refine ⟨(Blk.new _ _ _).alloc _, ?_, Nat.le_refl _, by omega, ((Below.refl _ _).al _).al _⟩
  have h := Blk.new (w.alloc (.cells #[v0, v1, v2] 25)) 25 #[.slice none 0 0, .int .i64 0, .slice none 0 0]
  rw [show (w.alloc (.cells #[v0, v1, v2] 25)).heap.size = w.heap.size + 1 by simp] at h
  exact h
theorem SO.setAll {w : World} {base gs n c i : Nat} {st : St} {t t' : Sl} {vb : Value} (h : SO w base st (.slice (some ⟨gs, 0, none⟩) n c) vb) (hn : n = st.slots.length) (ht : st.slots[i]? = some t) (clock : Int) :
    SO ((((w.setCell ⟨gs, i * 4, none⟩ (.bool t'.valid)).setCell ⟨gs, i * 4 + 1, none⟩ (.bool t'.dirty)).setCell ⟨gs, i * 4 + 2, none⟩ (.int .i64 t'.block)).setCell ⟨gs, i * 4 + 3, none⟩ (.int .i64 t'.stamp)) base ⟨st.slots.set i t', clock, st.missed⟩ (.slice (some ⟨gs, 0, none⟩) n c) vb := by
  have hi : i < st.slots.length := (List.getElem?_eq_some_iff.1 ht).1
  have g : ∀ (l : List Sl) (u : Sl), i < l.length → (l.set i u)[i]? = some u := fun l u h => by simp [h]
  have h1 := h.setSlot hn ht (j := 0) (u := .bool t'.valid) (t' := ⟨t'.valid, t.dirty, t.block, t.stamp⟩) (by decide) rfl clock
  have h2 := h1.setSlot (by simp [hn]) (g _ _ hi) (j := 1) (u := .bool t'.dirty) (t' := ⟨t'.valid, t'.dirty, t.block, t.stamp⟩) (by decide) rfl clock
  have h3 := h2.setSlot (by simp [hn]) (g _ _ (by simp [hi])) (j := 2) (u := .int .i64 t'.block) (t' := ⟨t'.valid, t'.dirty, t'.block, t.stamp⟩) (by decide) rfl clock
  have h4 := h3.setSlot (by simp [hn]) (g _ _ (by simp [hi])) (j := 3) (u := .int .i64 t'.stamp) (t' := t') (by decide) rfl clock
  simp only [List.set_set] at h4
  exact h4
end Go.Proofs.Ytmmdckijokiomaa
