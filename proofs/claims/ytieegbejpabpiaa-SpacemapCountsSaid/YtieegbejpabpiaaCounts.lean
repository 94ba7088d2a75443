/- The sum of the counts behind each call. -/
import Derived.Test.YtieegbejpabpiaaKeeps
namespace Go.Proofs.Ytieegbejpabpiaa
open Go.RowKit

theorem sum_set (N : List Int) (k : Nat) (z : Int) (h : k < N.length) : (N.set k z).sum = N.sum - N.getD k 0 + z := by
  induction N generalizing k with
  | nil => simp at h
  | cons a N ih =>
    cases k with
    | zero => simp; omega
    | succ k =>
      have := ih k (by simpa using h)
      simp only [List.set_cons_succ, List.sum_cons, List.getD_cons_succ]
      omega
theorem sum_inc (N : List Int) (b : Int) : (incN N b).sum = N.sum + if incE N b = 0 then 1 else 0 := by
  unfold incN
  by_cases h : incE N b = 0
  · rw [if_pos h, if_pos h]
    have hb : hasB N b = true := by
      cases hh : hasB N b with
      | true => rfl
      | false => simp [incE, hh] at h
    have := (hasB_iff _ _).1 hb
    rw [sum_set N _ _ (by omega)]
    omega
  · rw [if_neg h, if_neg h]; omega
theorem sum_dec (N : List Int) (b : Int) : (decN N b).sum = N.sum + if decE N b = 0 then -1 else 0 := by
  unfold decN
  by_cases h : decE N b = 0
  · rw [if_pos h, if_pos h]
    have hb : hasB N b = true := by
      cases hh : hasB N b with
      | true => rfl
      | false => simp [decE, hh] at h
    have := (hasB_iff _ _).1 hb
    rw [sum_set N _ _ (by omega)]
    omega
  · rw [if_neg h, if_neg h]; omega
theorem sum_alloc {N O : List Int} {b : Nat} (h : ffree N O = some b) : (allocN N O).sum = N.sum + 1 := by
  obtain ⟨hb, hf, _⟩ := ffree_some' h
  unfold allocN
  rw [h]
  show (N.set b 1).sum = _
  rw [sum_set N b 1 hb, ((freeB_iff _ _ _).1 hf).1]
  omega
end Go.Proofs.Ytieegbejpabpiaa
