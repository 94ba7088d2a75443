/- A store into a target of a row. -/
import Derived.Test.YtkifopombddcjaaBuilt
namespace Go.Proofs.Ytkifopombddcjaa
open Go.RowKit

theorem C_set {ts : List Tg} {i : Nat} {t t' : Tg} (h : ts[i]? = some t) (j : Nat) (hj : j < 5) (u : Value) (hu : (cells t).set j u = cells t') : (C ts).set (i * 5 + j) u = C (ts.set i t') := by
  induction ts generalizing i with
  | nil => simp at h
  | cons x ts ih =>
    cases i with
    | zero =>
      simp at h
      subst h
      rw [List.set_cons_zero, C_cons, C_cons, List.set_append, if_pos (by show 0 * 5 + j < 5; omega), Nat.zero_mul, Nat.zero_add, hu]
    | succ i =>
      rw [List.set_cons_succ, C_cons, C_cons, List.set_append, if_neg (by show ¬ ((i + 1) * 5 + j < 5); omega)]
      rw [show (i + 1) * 5 + j - (cells x).length = i * 5 + j by show (i + 1) * 5 + j - 5 = _; omega, ih (by simpa using h)]
/-- one field of target i of the row is stored -/
theorem BS.put {B sb g c : Nat} {w wx : World} {ts : List Tg} {i j : Nat} {t t' : Tg} (h : BS B sb w wx (.slice (some ⟨g, 0, none⟩) ts.length c) ts) (hlt : sb < w.heap.size) (hB : B ≤ w.heap.size)
    (ht : ts[i]? = some t) (hj : j < 5) (u : Value) (hu : (cells t).set j u = cells t') : BS B sb w (wx.setCell ⟨g, i * 5 + j, none⟩ u) (.slice (some ⟨g, 0, none⟩) ts.length c) (ts.set i t') := by
  have hge := (h.own.lt g rfl).1
  have ho : Only (· = g) wx (wx.setCell ⟨g, i * 5 + j, none⟩ u) := (Only.refl (· = g) wx).setCell (p := ⟨g, i * 5 + j, none⟩) (.inl rfl) _
  refine ⟨?_, h.src.only ho (by omega) (fun k e => by omega), h.onl.setCell (p := ⟨g, i * 5 + j, none⟩) (.inr hge) _⟩
  have := (h.own.stored (i * 5 + j) u).1
  rw [C_set ht j hj u hu] at this
  rw [List.length_set]
  exact this
end Go.Proofs.Ytkifopombddcjaa
