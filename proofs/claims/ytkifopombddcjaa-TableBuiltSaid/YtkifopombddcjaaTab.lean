/- Tables in plain mathematics. -/
import Derived.Test.YtkifopombddcjaaSrc
import Derived.Lib.Strings
namespace Go.Proofs.Ytkifopombddcjaa
open Go.RowKit

/-- a target -/
structure Tg where
  start : Int
  len : Int
  on : ByteArray
  off : Int
  fail : Bool
deriving DecidableEq
/-- the cells of a target -/
def cells (t : Tg) : List Value := [.int .i64 t.start, .int .i64 t.len, .string t.on, .int .i64 t.off, .bool t.fail]
def C (l : List Tg) : List Value := l.flatMap cells
theorem C_nil : C [] = [] := rfl
theorem C_cons (t : Tg) (l : List Tg) : C (t :: l) = cells t ++ C l := rfl
theorem C_append (a b : List Tg) : C (a ++ b) = C a ++ C b := by simp [C]
theorem C_len (l : List Tg) : (C l).length = l.length * 5 := by
  induction l with
  | nil => rfl
  | cons t l ih => rw [C_cons, List.length_append, ih, List.length_cons]; show 5 + _ = _; omega
theorem C_at {l : List Tg} {k : Nat} {t : Tg} (h : l[k]? = some t) (j : Nat) (hj : j < 5) : (C l)[k * 5 + j]? = (cells t)[j]? := by
  induction l generalizing k with
  | nil => simp at h
  | cons u l ih =>
    rw [C_cons]
    cases k with
    | zero =>
      simp at h
      subst h
      rw [Nat.zero_mul, Nat.zero_add, List.getElem?_append_left (show j < (cells u).length from hj)]
    | succ k =>
      rw [List.getElem?_append_right (show (cells u).length ≤ (k + 1) * 5 + j by show 5 ≤ _; omega)]
      rw [show (k + 1) * 5 + j - (cells u).length = k * 5 + j by show (k + 1) * 5 + j - 5 = _; omega]
      exact ih (by simpa using h)
/-- a slice of targets in memory -/
def TReads (w : World) (B : Nat) (A : Option Addr) (l : List Tg) : Prop := Reads w B 5 A l.length (C l)
structure Five (w : World) (g o : Nat) (t : Tg) : Prop where
  c0 : w.cell? ⟨g, o, none⟩ = some (.int .i64 t.start)
  c1 : w.cell? ⟨g, o + 1, none⟩ = some (.int .i64 t.len)
  c2 : w.cell? ⟨g, o + 2, none⟩ = some (.string t.on)
  c3 : w.cell? ⟨g, o + 3, none⟩ = some (.int .i64 t.off)
  c4 : w.cell? ⟨g, o + 4, none⟩ = some (.bool t.fail)

def emptyB (s : ByteArray) : Bool := decide (s.size = 0)
theorem nil_iff (s : ByteArray) : (s.toList == []) = emptyB s := by
  unfold emptyB
  rw [Lib.toList_data, Lib.size_eq]
  cases s.data.toList with
  | nil => rfl
  | cons a l => simp

/-- the first fault of a target that must start at s, or 0 -/
def faultT (s : Int) (t : Tg) : Int :=
  if t.start ≠ s then 2 else if t.len < 1 ∨ 16777216 < t.len then 1 else if (t.fail = true ∧ emptyB t.on = false) ∨ (emptyB t.on = true ∧ t.off ≠ 0) then 2
  else if t.off < 0 ∨ 16777216 - t.len < t.off then 1 else 0
def faultL : Int → List Tg → Int
  | _, [] => 0
  | s, t :: l => if faultT s t = 0 then faultL (s + t.len) l else faultT s t
def checkE (l : List Tg) : Int := if 64 < l.length then 4 else faultL 0 l
end Go.Proofs.Ytkifopombddcjaa
