/- The table of steps. -/
import Derived.Test.YtfmdbmalmeimbaaDoorQuoted2
import Derived.Deep.WholeRow
import Derived.Lib.SlBytesConst
namespace Go.Proofs.YtfmdbmalmeimbaaDoor
open Go.RowKit
set_option maxRecDepth 100000

def fnV (f : FuncId) : Value := .func (Fn.func f) #[] #[]
/-- the step for a byte -/
def stepV (n : Nat) : Value :=
  if n = 32 ∨ n = 9 ∨ n = 10 then fnV 83 else if n = 35 then fnV 84 else if n = 34 then fnV 85
  else if signN n = true then fnV 82 else if letterN n = true then fnV 81 else .nilFunc
def arr1 (k : Nat) : Array Value := Array.ofFn (n := 256) fun i => if i.val < k ∧ letterN i.val = true then fnV 81 else .nilFunc
def signs : List Nat := [123, 125, 91, 93, 44, 61]
def arr2 (k : Nat) : Array Value := (signs.take k).foldl (fun a c => a.setIfInBounds c (fnV 82)) (arr1 256)
def arrF : Array Value := Array.ofFn (n := 256) fun i => stepV i.val
theorem arr1_size (k : Nat) : (arr1 k).size = 256 := by simp [arr1]
theorem arr1_get (k i : Nat) : (arr1 k)[i]? = if i < 256 then some (if i < k ∧ letterN i = true then fnV 81 else .nilFunc) else none := by
  by_cases h : i < 256
  · simp [arr1, h]
  · simp [arr1, h]
theorem arr1_hit (k : Nat) (h : k < 256) (hl : letterN k = true) : (arr1 k).setIfInBounds k (fnV 81) = arr1 (k + 1) := by
  apply Array.ext_getElem?
  intro i
  rw [Array.getElem?_setIfInBounds, arr1_get, arr1_get, arr1_size]
  by_cases e : k = i
  · subst e; simp [h, hl]
  · by_cases e2 : i < k
    · simp [e, e2, show i < k + 1 by omega]
    · simp [e, e2, show ¬ i < k + 1 by omega]
theorem arr1_miss (k : Nat) (hl : letterN k = false) : arr1 k = arr1 (k + 1) := by
  apply Array.ext_getElem?
  intro i
  rw [arr1_get, arr1_get]
  by_cases e : k = i
  · subst e; simp [hl]
  · by_cases e2 : i < k
    · simp [e2, show i < k + 1 by omega]
    · simp [e2, show ¬ i < k + 1 by omega]
theorem fold_size (l : List Nat) (f : Value) : ∀ a : Array Value, (l.foldl (fun a c => a.setIfInBounds c f) a).size = a.size := by
  induction l with
  | nil => intro a; rfl
  | cons c l ih => intro a; rw [List.foldl_cons, ih]; simp
theorem arr2_size (k : Nat) : (arr2 k).size = 256 := by unfold arr2; rw [fold_size, arr1_size]
theorem fold_get (l : List Nat) (f : Value) : ∀ (a : Array Value) (i : Nat), (l.foldl (fun a c => a.setIfInBounds c f) a)[i]? = if i ∈ l ∧ i < a.size then some f else a[i]? := by
  induction l with
  | nil => intro a i; simp
  | cons c l ih =>
    intro a i
    rw [List.foldl_cons, ih, Array.size_setIfInBounds, Array.getElem?_setIfInBounds]
    by_cases h1 : i < a.size
    · by_cases h2 : i ∈ l
      · simp [h1, h2]
      · by_cases h3 : c = i
        · subst h3; simp [h1]
        · have : ¬ i = c := fun e => h3 e.symm
          simp [h1, h2, h3, this]
    · by_cases h3 : c = i
      · subst h3; simp [h1]
      · simp [h1, h3]
theorem arrF_get (i : Nat) (h : i < 256) : arrF[i]? = some (stepV i) := by simp [arrF, h]
theorem arrF_size : arrF.size = 256 := by simp [arrF]
theorem arr_done : ((((((arr2 6).setIfInBounds 32 (fnV 83)).setIfInBounds 9 (fnV 83)).setIfInBounds 10 (fnV 83)).setIfInBounds 35 (fnV 84)).setIfInBounds 34 (fnV 85)) = arrF := by
  apply Array.ext_getElem?
  intro i
  simp only [Array.getElem?_setIfInBounds, Array.size_setIfInBounds, arr2_size]
  by_cases h : i < 256
  · rw [arrF_get i h]
    unfold arr2
    rw [fold_get, arr1_get, arr1_size]
    unfold stepV
    by_cases h34 : 34 = i
    · subst h34; simp
    by_cases h35 : 35 = i
    · subst h35; simp
    by_cases h10 : 10 = i
    · subst h10; simp
    by_cases h9 : 9 = i
    · subst h9; simp
    by_cases h32 : 32 = i
    · subst h32; simp
    have e1 : ¬ i = 34 := fun e => h34 e.symm
    have e2 : ¬ i = 35 := fun e => h35 e.symm
    have e3 : ¬ i = 10 := fun e => h10 e.symm
    have e4 : ¬ i = 9 := fun e => h9 e.symm
    have e5 : ¬ i = 32 := fun e => h32 e.symm
    have hs : (i ∈ signs.take 6) ↔ signN i = true := by simp [signs, signN, or_assoc]
    simp only [h34, h35, h10, h9, h32, if_false, e1, e2, e3, e4, e5, or_self, h, and_true, hs, true_and, if_true]
    split <;> rfl
  · have e1 : ¬ 34 = i := by omega
    have e2 : ¬ 35 = i := by omega
    have e3 : ¬ 10 = i := by omega
    have e4 : ¬ 9 = i := by omega
    have e5 : ¬ 32 = i := by omega
    simp only [e1, e2, e3, e4, e5, if_false]
    rw [Array.getElem?_eq_none (by rw [arr2_size]; omega), Array.getElem?_eq_none (by rw [arrF_size]; omega)]
end Go.Proofs.YtfmdbmalmeimbaaDoor
