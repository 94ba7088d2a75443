/- Plain mathematics of the rows of a parity volume. -/
import Derived.Test.YtbpdliddeakedaaBack
namespace Go.Proofs.Ytbpdliddeakedaa
open Go.RowKit

theorem range_get (k j : Nat) (f : Nat → Int) (h : j < k) : ((List.range k).map f).getD j 0 = f j := by
  simp [List.getD_eq_getElem?_getD, h]
theorem range_set (k i : Nat) (f g : Nat → Int) (v : Int) (h : ∀ j, j < k → g j = if j = i then v else f j) : ((List.range k).map f).set i v = (List.range k).map g := by
  apply List.ext_getElem?
  intro j
  rw [List.getElem?_set]
  by_cases hj : j < k
  · by_cases e : i = j
    · subst e; simp [hj, h]
    · simp [hj, h, e, Ne.symm e]
  · simp only [List.length_map, List.length_range, List.getElem?_map]
    by_cases e : i = j
    · subst e; simp [hj]
    · simp [hj, e]

/-- how often the legs were used by the first t chunks of a row with the parity on leg p -/
def usedL (k p t : Nat) : List Int := (List.range k).map fun j => if t = 0 then 0 else if (j + k - p) % k ≤ t then 1 else 0
/-- how often the legs had the parity in q rows from 'row' on -/
def seenL (k row q : Nat) : List Int := (List.range k).map fun j => if (k - 1 - j + (k - row % k)) % k < q then 1 else 0
def parN (k r : Nat) : Nat := k - 1 - r % k
def legN (k r t : Nat) : Nat := (parN k r + 1 + t) % k

section
variable {k : Nat} (h3 : 3 ≤ k) (h6 : k ≤ 6)
include h3 h6

theorem cases_k : k = 3 ∨ k = 4 ∨ k = 5 ∨ k = 6 := by omega

theorem par_lt (r : Nat) : parN k r < k := by unfold parN; omega
theorem leg_lt (r t : Nat) : legN k r t < k := Nat.mod_lt _ (by omega)
theorem leg_ne (r t : Nat) (ht : t < k - 1) : legN k r t ≠ parN k r := by
  unfold legN parN
  rcases cases_k h3 h6 with rfl | rfl | rfl | rfl <;> omega
theorem used_get (r t : Nat) (ht : t < k - 1) : (usedL k (parN k r) t).getD (legN k r t) 0 = 0 := by
  rw [usedL, range_get _ _ _ (leg_lt h3 h6 r t)]
  have : ¬ (legN k r t + k - parN k r) % k ≤ t := by
    unfold legN parN
    rcases cases_k h3 h6 with rfl | rfl | rfl | rfl <;> omega
  simp [this]
theorem used_set (r t : Nat) (ht : t < k - 1) (h0 : 0 < t) : (usedL k (parN k r) t).set (legN k r t) 1 = usedL k (parN k r) (t + 1) := by
  refine range_set _ _ _ _ _ fun j hj => ?_
  have e : (j + k - parN k r) % k ≤ t + 1 ↔ j = legN k r t ∨ (j + k - parN k r) % k ≤ t := by
    unfold legN parN
    rcases cases_k h3 h6 with rfl | rfl | rfl | rfl <;> omega
  rw [if_neg (show ¬ t + 1 = 0 by omega), if_neg (show ¬ t = 0 by omega)]
  by_cases a : j = legN k r t
  · rw [if_pos a, if_pos (e.2 (.inl a))]
  · rw [if_neg a]
    by_cases b : (j + k - parN k r) % k ≤ t
    · rw [if_pos b, if_pos (e.2 (.inr b))]
    · rw [if_neg b, if_neg (fun h => (e.1 h).elim a b)]
theorem used_set0 (r : Nat) : ((usedL k (parN k r) 0).set (legN k r 0) 1).getD (parN k r) 0 = 0 := by
  have e : ((usedL k (parN k r) 0).set (legN k r 0) 1) = (List.range k).map fun j => if j = legN k r 0 then 1 else 0 :=
    range_set _ _ _ _ _ fun j hj => by simp
  rw [e, range_get _ _ _ (par_lt h3 h6 r), if_neg (leg_ne h3 h6 r 0 (by omega)).symm]
theorem used_set1 (r : Nat) : ((usedL k (parN k r) 0).set (legN k r 0) 1).set (parN k r) 1 = usedL k (parN k r) 1 := by
  have e : ((usedL k (parN k r) 0).set (legN k r 0) 1) = (List.range k).map fun j => if j = legN k r 0 then 1 else 0 :=
    range_set _ _ _ _ _ fun j hj => by simp
  rw [e]
  refine range_set _ _ _ _ _ fun j hj => ?_
  have e : (j + k - parN k r) % k ≤ 1 ↔ j = parN k r ∨ j = legN k r 0 := by
    unfold legN parN
    rcases cases_k h3 h6 with rfl | rfl | rfl | rfl <;> omega
  rw [if_neg (by omega)]
  by_cases a : j = parN k r
  · rw [if_pos a, if_pos (e.2 (.inl a))]
  · rw [if_neg a]
    by_cases b : j = legN k r 0
    · rw [if_pos b, if_pos (e.2 (.inr b))]
    · rw [if_neg b, if_neg (fun h => (e.1 h).elim a b)]
theorem used_all (r j : Nat) (hj : j < k) : (usedL k (parN k r) (k - 1)).getD j 0 = 1 := by
  rw [usedL, range_get _ _ _ hj, if_neg (by omega), if_pos]
  have := Nat.mod_lt (j + k - parN k r) (show 0 < k by omega)
  omega
theorem seen_get (row q : Nat) (hq : q < k) : (seenL k row q).getD (parN k (row + q)) 0 = 0 := by
  rw [seenL, range_get _ _ _ (par_lt h3 h6 _), if_neg]
  unfold parN
  rcases cases_k h3 h6 with rfl | rfl | rfl | rfl <;> omega
theorem seen_set (row q : Nat) (hq : q < k) : (seenL k row q).set (parN k (row + q)) 1 = seenL k row (q + 1) := by
  refine range_set _ _ _ _ _ fun j hj => ?_
  have e : (k - 1 - j + (k - row % k)) % k < q + 1 ↔ j = parN k (row + q) ∨ (k - 1 - j + (k - row % k)) % k < q := by
    unfold parN
    rcases cases_k h3 h6 with rfl | rfl | rfl | rfl <;> omega
  by_cases a : j = parN k (row + q)
  · rw [if_pos a, if_pos (e.2 (.inl a))]
  · rw [if_neg a]
    by_cases b : (k - 1 - j + (k - row % k)) % k < q
    · rw [if_pos b, if_pos (e.2 (.inr b))]
    · rw [if_neg b, if_neg (fun h => (e.1 h).elim a b)]
theorem seen_all (row j : Nat) (hj : j < k) : (seenL k row k).getD j 0 = 1 := by
  rw [seenL, range_get _ _ _ hj, if_pos (Nat.mod_lt _ (by omega))]
end
theorem seen_none (k row : Nat) : seenL k row 0 = List.replicate k 0 := by
  apply List.ext_getElem?
  intro j
  simp [seenL, List.getElem?_replicate]
  by_cases hj : j < k <;> simp [hj]
theorem used_none (k p : Nat) : usedL k p 0 = List.replicate k 0 := by
  apply List.ext_getElem?
  intro j
  simp [usedL, List.getElem?_replicate]
  by_cases hj : j < k <;> simp [hj]

/-- the sector -/
def secN (c k r t m : Nat) : Nat := (r * (k - 1) + t) * c + m

theorem place_row (c k r t m : Nat) (hc : 1 ≤ c) (hc' : c ≤ 8) (h3 : 3 ≤ k) (h6 : k ≤ 6) (hr : r ≤ 9000) (ht : t < k - 1) (hm : m < c) :
    placeV c k (secN c k r t m : Nat) = .tuple #[.int .i64 (legN k r t : Nat), .int .i64 ((r * c + m : Nat) : Int), .int .i64 (parN k r : Nat), .int .i64 0] := by
  have e1 : (secN c k r t m) / c = r * (k - 1) + t := by
    unfold secN
    rw [Nat.add_comm, Nat.add_mul_div_right _ _ (by omega), Nat.div_eq_of_lt hm, Nat.zero_add]
  have e2 : (secN c k r t m) % c = m := by
    unfold secN
    rw [Nat.add_comm, Nat.add_mul_mod_self_right, Nat.mod_eq_of_lt hm]
  have e3 : (r * (k - 1) + t) / (k - 1) = r := by
    rw [Nat.add_comm, Nat.add_mul_div_right _ _ (by omega), Nat.div_eq_of_lt ht, Nat.zero_add]
  have e4 : (r * (k - 1) + t) % (k - 1) = t := by
    rw [Nat.add_comm, Nat.add_mul_mod_self_right, Nat.mod_eq_of_lt ht]
  have b1 : r * (k - 1) ≤ 9000 * 5 := Nat.mul_le_mul hr (by omega)
  have b2 : (r * (k - 1) + t) * c ≤ 45005 * 8 := Nat.mul_le_mul (by omega) hc'
  have b3 : secN c k r t m ≤ 1073741824 := by unfold secN; omega
  have ok : okB c k = true := (okB_iff _ _).2 ⟨by omega, by omega, by omega, by omega⟩
  have sc : secB (secN c k r t m : Nat) = true := (secB_iff _).2 ⟨by omega, by omega⟩
  have k1 : ((k : Int) - 1) = ((k - 1 : Nat) : Int) := by omega
  have f1 : ((secN c k r t m : Nat) : Int) / (c : Int) = ((r * (k - 1) + t : Nat) : Int) := by rw [← e1]; rfl
  have f2 : ((secN c k r t m : Nat) : Int) % (c : Int) = (m : Int) := by rw [← Int.natCast_emod, e2]
  have f3 : ((r * (k - 1) + t : Nat) : Int) / ((k - 1 : Nat) : Int) = (r : Int) := by rw [← Int.natCast_ediv, e3]
  have f4 : ((r * (k - 1) + t : Nat) : Int) % ((k - 1 : Nat) : Int) = (t : Int) := by rw [← Int.natCast_emod, e4]
  have f5 : pPar k r = (parN k r : Nat) := by
    unfold pPar parN
    rw [← Int.natCast_emod]
    have := Nat.mod_lt r (show 0 < k by omega)
    omega
  unfold placeV
  rw [ok, sc]
  simp only [Bool.and_self, if_true, pLeg, pOff]
  rw [f1, k1, f3, f4, f2, f5]
  simp only [legN]
  simp only [Int.natCast_emod, Int.natCast_add, Int.natCast_mul, Int.natCast_one]

theorem back_row (c k r t m : Nat) (hc : 1 ≤ c) (hc' : c ≤ 8) (h3 : 3 ≤ k) (h6 : k ≤ 6) (hr : r ≤ 9000) (ht : t < k - 1) (hm : m < c) :
    backV c k (legN k r t : Nat) ((r * c + m : Nat) : Int) = .tuple #[.int .i64 (secN c k r t m : Nat), .bool true, .int .i64 0] := by
  have hl := leg_lt h3 h6 r t
  have b1 : r * c ≤ 9000 * 8 := Nat.mul_le_mul hr hc'
  have hB : backB c k (legN k r t : Nat) ((r * c + m : Nat) : Int) = true := (backB_iff _ _ _ _).2 ⟨⟨by omega, by omega, by omega, by omega⟩, ⟨by omega, by omega⟩, by omega, by omega⟩
  have f1 : ((r * c + m : Nat) : Int) / (c : Int) = (r : Int) := by
    rw [← Int.natCast_ediv, Nat.add_comm, Nat.add_mul_div_right _ _ (by omega), Nat.div_eq_of_lt hm, Nat.zero_add]
  have f2 : ((r * c + m : Nat) : Int) % (c : Int) = (m : Int) := by
    rw [← Int.natCast_emod, Nat.add_comm, Nat.add_mul_mod_self_right, Nat.mod_eq_of_lt hm]
  have hk : bK c k (legN k r t : Nat) ((r * c + m : Nat) : Int) = (t : Int) := by
    unfold bK
    rw [f1]
    unfold pPar legN parN
    rcases cases_k h3 h6 with rfl | rfl | rfl | rfl <;> omega
  unfold backV
  rw [hB, if_pos rfl, hk, if_neg (by simp; omega)]
  unfold bAt
  rw [hk, f1, f2]
  have k1 : ((k : Int) - 1) = ((k - 1 : Nat) : Int) := by omega
  rw [k1]
  simp [secN]
end Go.Proofs.Ytbpdliddeakedaa
