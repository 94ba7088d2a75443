/- Triples in memory. -/
import Derived.Test.YtialblddcgdlkaaLinP
import Derived.Test.YtialblddcgdlkaaWalkC
import Derived.Test.YtialblddcgdlkaaOnly
import Derived.Deep.Slices
namespace Go.Proofs.Ytialblddcgdlkaa
open Go.RowKit

def c3 (t : T3) : List Value := [V64 (x0 t), V64 (x1 t), V64 (x2 t)]
def C3 (l : List T3) : List Value := l.flatMap c3
theorem C3_at {l : List T3} {k : Nat} {t : T3} (h : l[k]? = some t) (j : Nat) (hj : j < 3) : (C3 l)[k * 3 + j]? = (c3 t)[j]? := by
  induction l generalizing k with
  | nil => simp at h
  | cons u l ih =>
    rw [show C3 (u :: l) = c3 u ++ C3 l from rfl]
    cases k with
    | zero =>
      simp at h
      subst h
      rw [Nat.zero_mul, Nat.zero_add, List.getElem?_append_left (show j < (c3 u).length from hj)]
    | succ k =>
      rw [List.getElem?_append_right (show (c3 u).length ≤ (k + 1) * 3 + j by show 3 ≤ _; omega)]
      rw [show (k + 1) * 3 + j - (c3 u).length = k * 3 + j by show (k + 1) * 3 + j - 3 = _; omega]
      exact ih (by simpa using h)
theorem C3_len (l : List T3) : (C3 l).length = l.length * 3 := by
  induction l with
  | nil => rfl
  | cons t l ih => rw [show C3 (t :: l) = c3 t ++ C3 l from rfl, List.length_append, ih, List.length_cons]; show 3 + _ = _; omega
end Go.Proofs.Ytialblddcgdlkaa
