/- Plain facts about Alloc for SpacemapKeeps. -/
import Derived.Test.YtieegbejpabpiaaPlay2
namespace Go.Proofs.Ytieegbejpabpiaa
open Go.RowKit

theorem ffree_some' {N O : List Int} {b : Nat} (h : ffree N O = some b) : b < N.length ∧ freeB N O b = true ∧ ∀ j, j < b → freeB N O j = false := by
  unfold ffree at h
  rw [List.find?_range_eq_some] at h
  obtain ⟨h1, h2, h3⟩ := h
  exact ⟨by simpa using h2, h1, fun j hj => by simpa using h3 j hj⟩
theorem ffree_none' {N O : List Int} (h : ffree N O = none) : ∀ j, j < N.length → freeB N O j = false := by
  unfold ffree at h
  rw [List.find?_eq_none] at h
  intro j hj
  simpa using h j (by simpa using hj)
theorem nfree_zero (N O : List Int) (k : Nat) (h : ∀ j, j < k → freeB N O j = false) : nfree N O k = 0 := by
  induction k with
  | zero => rfl
  | succ k ih => rw [nfree_succ, ih (fun j hj => h j (by omega)), h k (by omega)]; rfl
theorem freeB_set (N O : List Int) (b j : Nat) (hb : b < N.length) : freeB (N.set b 1) O j = if j = b then false else freeB N O j := by
  unfold freeB
  rw [getD_set N b j 1 hb]
  by_cases e : j = b
  · rw [if_pos e, if_pos e]; rfl
  · rw [if_neg e, if_neg e]
theorem nfree_set (N O : List Int) (b : Nat) (hb : b < N.length) (hf : freeB N O b = true) (k : Nat) : nfree (N.set b 1) O k = nfree N O k - if b < k then 1 else 0 := by
  induction k with
  | zero => simp [nfree]
  | succ k ih =>
    rw [nfree_succ, nfree_succ, ih, freeB_set N O b k hb]
    by_cases e : k = b
    · subst e
      rw [if_pos rfl, hf]
      simp
    · rw [if_neg e]
      have hiff : b < k + 1 ↔ b < k := by omega
      simp only [hiff]
      omega

/-- the zeros among a row's cells -/
def nz (N : List Int) (k : Nat) : Nat := (List.range k).countP (fun j => N.getD j 0 == 0)
theorem nz_succ (N : List Int) (k : Nat) : nz N (k + 1) = nz N k + if (N.getD k 0 == 0) = true then 1 else 0 := by
  unfold nz
  rw [List.range_succ, List.countP_append]
  simp only [List.countP_cons, List.countP_nil, Nat.zero_add]
theorem nz_set (N : List Int) (b : Nat) (hb : b < N.length) (hf : N.getD b 0 = 0) (k : Nat) : nz (N.set b 1) k + (if b < k then 1 else 0) = nz N k := by
  induction k with
  | zero => simp [nz]
  | succ k ih =>
    rw [nz_succ, nz_succ, ← ih, getD_set N b k 1 hb]
    by_cases e : k = b
    · subst e
      rw [if_pos rfl, hf]
      simp
    · rw [if_neg e]
      have hiff : b < k + 1 ↔ b < k := by omega
      simp only [hiff]
      omega
def zc (wr : World) (gn n : Nat) : Nat := (List.range n).countP (fun j => match wr.cell? ⟨gn, j, none⟩ with | some v => intOf v == 0 | none => false)
theorem zc_eq {B : Nat} {wr : World} {gn cn : Nat} {N : List Int} (h : Row B wr gn cn N) : zc wr gn N.length = nz N N.length := by
  unfold zc nz
  apply List.countP_congr
  intro j hj
  rw [h.cell (by simpa using hj)]
  rfl
theorem atI_nat (N : List Int) (b : Nat) (h : b < N.length) : atI N (b : Int) = N.getD b 0 := by
  have : hasB N (b : Int) = true := (hasB_iff _ _).2 ⟨by omega, by omega⟩
  simp [atI, this]
end Go.Proofs.Ytieegbejpabpiaa
