/- The least stamp, in plain mathematics. -/
import Derived.Test.YtmmdckijokiomaaFind
namespace Go.Proofs.Ytmmdckijokiomaa
open Go.RowKit

def lessB (l : List Sl) (k : Option Nat) (t : Sl) : Bool := match k with
  | none => true
  | some j => match l[j]? with
    | none => true
    | some u => decide (t.stamp < u.stamp)
/-- the first of the least among the first i -/
def leastK (p : Sl → Bool) (l : List Sl) : Nat → Option Nat
  | 0 => none
  | i + 1 => match l[i]? with
    | none => leastK p l i
    | some t => if (p t && lessB l (leastK p l i) t) = true then some i else leastK p l i
def leastI (p : Sl → Bool) (l : List Sl) : Int := optI (leastK p l l.length)
theorem least_lt (p : Sl → Bool) (l : List Sl) : ∀ i k, leastK p l i = some k → k < i := by
  intro i
  induction i with
  | zero => intro k h; cases h
  | succ i ih =>
    intro k h
    unfold leastK at h
    split at h
    · have := ih k h; omega
    · split at h
      · injection h with h; omega
      · have := ih k h; omega
theorem least_take {p : Sl → Bool} {l : List Sl} {i : Nat} {t : Sl} (h : l[i]? = some t) (hc : (p t && lessB l (leastK p l i) t) = true) : leastK p l (i + 1) = some i := by
  conv => lhs; unfold leastK
  rw [h]
  simp only [hc, if_true]
theorem least_keep {p : Sl → Bool} {l : List Sl} {i : Nat} {t : Sl} (h : l[i]? = some t) (hc : (p t && lessB l (leastK p l i) t) = false) : leastK p l (i + 1) = leastK p l i := by
  conv => lhs; unfold leastK
  rw [h]
  simp only [hc]
  rfl
theorem least_congr {p q : Sl → Bool} {l : List Sl} (h : ∀ t ∈ l, p t = q t) : ∀ i, leastK p l i = leastK q l i := by
  intro i
  induction i with
  | zero => rfl
  | succ i ih =>
    unfold leastK
    cases ht : l[i]? with
    | none => exact ih
    | some t => simp only [ih, h t (List.mem_of_getElem? ht)]
theorem leastI_congr {p q : Sl → Bool} {l : List Sl} (h : ∀ t ∈ l, p t = q t) : leastI p l = leastI q l := by
  unfold leastI
  rw [least_congr h]
/-- none of the kind: no index -/
theorem least_none {p : Sl → Bool} {l : List Sl} (h : ∀ t ∈ l, p t = false) : ∀ i, leastK p l i = none := by
  intro i
  induction i with
  | zero => rfl
  | succ i ih =>
    unfold leastK
    cases ht : l[i]? with
    | none => exact ih
    | some t => simp only [h t (List.mem_of_getElem? ht), Bool.false_and, ih]; rfl
end Go.Proofs.Ytmmdckijokiomaa
