/- The reference's Cut finds the suffix that names.cut finds. -/
import Derived.Test.YtnodlkjajgeepaaDoorCut
namespace Go.Proofs.YtnodlkjajgeepaaDoor
open Go.RowKit

/-- texts as values -/
def T (l : List ByteArray) : List Value := l.map Value.string
theorem T_at {l : List ByteArray} {k : Nat} {u : Value} (h : (T l)[k]? = some u) : ∃ p, l[k]? = some p ∧ u = .string p := by
  simp [T] at h
  obtain ⟨a, h1, h2⟩ := h
  exact ⟨a, h1, h2.symm⟩
theorem texts_reads (w : World) (l : List ByteArray) (hl : l.length ≤ 1000) : Reads (w.alloc (.cells (T l).toArray 9)) (w.alloc (.cells (T l).toArray 9)).heap.size 1 (some ⟨w.heap.size, 0, none⟩) l.length (T l) :=
  Reads.of_own (World.ownsRow_lit (base := w.heap.size) (e := 9) (size := 1) w (T l).toArray l.length (Nat.le_refl _) (by unfold maxLen; omega) (by simp [T]))

theorem add0 (g k : Nat) : (⟨g, 0, none⟩ : Addr).add k = ⟨g, k, none⟩ := by
  unfold Addr.add
  split
  · rename_i h; rw [h]
  · simp

def rcutV (s : ByteArray) : Value := match cutF s with | some r => .tuple #[.string r, .bool true] | none => .tuple #[.string ⟨#[]⟩, .bool false]
theorem cutF_at (s p : ByteArray) (k : Nat) (hk : sufs[k]? = some p) (hno : ∀ q ∈ sufs.take k, hasS s q = false) (hp : hasS s p = true) : cutF s = some (trimS s p) := by
  have hlt : k < sufs.length := by
    rcases Nat.lt_or_ge k sufs.length with h | h
    · exact h
    · rw [List.getElem?_eq_none h] at hk; cases hk
  have e : sufs = sufs.take k ++ p :: sufs.drop (k + 1) := by
    rw [List.getElem?_eq_getElem hlt] at hk
    injection hk with hk
    rw [← hk, List.getElem_cons_drop, List.take_append_drop]
  unfold cutF
  rw [e, List.find?_append, List.find?_eq_none.2 (fun q hq => by rw [hno q hq]; exact Bool.false_ne_true)]
  simp [hp]
theorem cutF_none (s : ByteArray) (hno : ∀ q ∈ sufs.take 12, hasS s q = false) : cutF s = none := by
  unfold cutF
  rw [List.find?_eq_none.2 (fun q hq => by rw [hno q hq]; exact Bool.false_ne_true)]
  rfl
theorem take_more (s p : ByteArray) (k : Nat) (hk : sufs[k]? = some p) (hno : ∀ q ∈ sufs.take k, hasS s q = false) (hp : hasS s p = false) : ∀ q ∈ sufs.take (k + 1), hasS s q = false := by
  intro q hq
  rw [List.take_add_one, hk] at hq
  simp at hq
  rcases hq with h | rfl
  · exact hno q h
  · exact hp
theorem sufs_small (p : ByteArray) (k : Nat) (hk : sufs[k]? = some p) : p.size ≤ 6 := by
  have : p ∈ sufs := List.mem_of_getElem? hk
  simp [sufs, parts4, legs8] at this
  rcases this with rfl | rfl | rfl | rfl | rfl | rfl | rfl | rfl | rfl | rfl | rfl | rfl <;> decide

set_option maxRecDepth 100000 in
set_option maxHeartbeats 4000000 in
theorem rcut_any (s : ByteArray) (w : World) (hs : s.size ≤ 9223372036854775807) :
    Calls Tryd.prog 47 #[.string s] w (Ret (rcutV s) w) := by
  go_enter Tryd.func47, Tryd.ntmps47
  go_wp2_with fail
  go_loopw [5] (fun i wr => ∃ k : Nat, k ≤ 12 ∧ i = .int .i64 k ∧ (∀ q ∈ sufs.take k, hasS s q = false) ∧ Reads wr wr.heap.size 1 (some ⟨w.heap.size, 0, none⟩) 12 (T sufs) ∧ Below w.heap.size w wr) (fun i _ => 12 - (intOf i).toNat)
  case atStart => exact ⟨0, by omega, rfl, by simp, texts_reads w sufs (by decide), (Below.refl _ _).al _⟩
  case round =>
    obtain ⟨k, hk, rfl, hno, hr, hb⟩ := hrel
    have HB := Lib.hid hb
    have HNO := Lib.hid hno
    have HR := Lib.hid hr
    clear hb hno hr
    by_cases hlt : k < 12
    · obtain ⟨ad, u, had, hab, hx, hc⟩ := HR.out.at_ hlt
      obtain ⟨p, hp, rfl⟩ := T_at hx
      injection had with had
      subst had
      rw [add0] at hc
      have hps := sufs_small p k hp
      have HP := Lib.hid hp
      clear hx hab hp
      have i0 : (k : Int) < 12 := by omega
      by_cases hle : p.size ≤ s.size
      · have i1 : IntKind.i64.wrap ((s.size : Int) - (p.size : Int)) = ((s.size - p.size : Nat) : Int) := by rw [IntWalk.i64_in _ (by omega)]; omega
        have h2 := hasS_eq hle
        cases hh : hasS s p with
        | true =>
          rw [hh] at h2
          have HV := Lib.hid (cutF_at s p k HP.out HNO.out hh)
          clear hh
          go_wp2_with fail
          go_quiet (fail)
          have HBQ := Lib.hid (below_drewN HB.out nq)
          go_wp2_with fail
          go_ret2
          exact ⟨by unfold rcutV; rw [HV.out]; rfl, HBQ.out⟩
        | false =>
          rw [hh] at h2
          have HV := Lib.hid (take_more s p k HP.out HNO.out hh)
          clear hh
          go_wp2_with fail
          go_quiet (fail)
          have HBQ := Lib.hid (below_drewN HB.out nq)
          go_wp2_with fail
          exact ⟨⟨k + 1, by omega, by go_num, HV.out, HR.out.drewN nq, HBQ.out⟩, by simp [intOf]; omega⟩
      · have i1 : IntKind.i64.wrap ((s.size : Int) - (p.size : Int)) = (s.size : Int) - (p.size : Int) := IntWalk.i64_in _ (by omega)
        have hd : decide ((0 : Int) ≤ (s.size : Int) - (p.size : Int)) = false := decide_eq_false (by omega)
        have HV := Lib.hid (take_more s p k HP.out HNO.out (hasS_long hle))
        have i2 : ¬ (0 : Int) ≤ (s.size : Int) - (p.size : Int) := by omega
        go_wp2_with fail
        go_quiet (fail)
        have HBQ := Lib.hid (below_drewN HB.out nq)
        go_wp2_with fail
        exact ⟨⟨k + 1, by omega, by go_num, HV.out, HR.out.drewN nq, HBQ.out⟩, by simp [intOf]; omega⟩
    · obtain rfl : k = 12 := by omega
      have HV := Lib.hid (cutF_none s HNO.out)
      go_wp2_with fail
      go_ret2
      exact ⟨by unfold rcutV; rw [HV.out]; rfl, HB.out⟩
end Go.Proofs.YtnodlkjajgeepaaDoor
