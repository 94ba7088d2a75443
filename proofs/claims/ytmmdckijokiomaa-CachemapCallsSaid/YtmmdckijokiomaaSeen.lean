/- A set of numbers kept in a map of one's own. -/
import Derived.Test.YtmmdckijokiomaaSlot
import Derived.Maps.Own
import Derived.Maps.OwnOps
import Derived.Maps.OwnSet
import Derived.Maps.Views
namespace Go.Proofs.Ytmmdckijokiomaa
open Go.RowKit Go.Maps

theorem key_law : Keyed Try.prog 3 := int_keyed Try.underlying3
theorem zero_bool (w : World) : (zeroValue 4).run Try.prog w = .ok (.bool false) w := by kernel_rfl
/-- block b is a map: true at the numbers of acc, and at no other -/
def Seen (w : World) (b : Nat) (acc : List Int) : Prop :=
  ∃ D : DataW Unit, w.ownsMap Try.prog 3 (plainElem Try.prog 4) b acc.length D ∧ IsMap D ∧ ∀ x : Int, D.atKey (.int .i64 x) (.lit (.bool false)) = .lit (.bool (decide (x ∈ acc)))
theorem Seen.made (w : World) : Seen (w.alloc (.map #[] 0)) w.heap.size [] :=
  ⟨_, World.ownsMap_made _ _ _ _, isMap_empty, fun x => by simp [DataW.atKey]⟩
theorem Seen.lt {w : World} {b : Nat} {acc : List Int} (h : Seen w b acc) : b < w.heap.size := by obtain ⟨D, h, _⟩ := h; exact h.lt
theorem Seen.alloc {w : World} {b : Nat} {acc : List Int} (h : Seen w b acc) (o : Obj) : Seen (w.alloc o) b acc := by
  obtain ⟨D, h, h2⟩ := h
  exact ⟨D, h.alloc o, h2⟩
theorem plain_bool_inv {v : Value} {z : DataW Unit × List MemPlace} (h : plainElem Try.prog 4 v = some z) : ∃ x : Bool, v = .bool x ∧ z = (.lit (.bool x), []) := by
  cases v <;> simp [plainElem, Try.underlying4] at h
  exact ⟨_, rfl, h.symm⟩
theorem Seen.look {w : World} {b : Nat} {acc : List Int} (h : Seen w b acc) {x : Int} (hw : (Lit.int .i64 x).wf = true) :
    (Instr.lookup 56 (.map (some b)) (.int .i64 x) false).run Try.prog w = .ok (.bool (decide (x ∈ acc))) w := by
  obtain ⟨D, h, _, hD⟩ := h
  obtain ⟨v, ps, hrun, hv⟩ := h.lookup key_law Try.underlying56 (zero_bool w) (plainElem_bool Try.underlying4 false) (keyOf_int_mk Try.underlying3 hw)
  obtain ⟨y, rfl, hy⟩ := plain_bool_inv hv
  rw [hD x] at hy
  injection hy with hy _
  injection hy with hy
  injection hy with hy
  rw [hrun, ← hy]
theorem Seen.put {w' : World} {b : Nat} {acc : List Int} {D : DataW Unit} (h2 : IsMap D) (h3 : ∀ x : Int, D.atKey (.int .i64 x) (.lit (.bool false)) = .lit (.bool (decide (x ∈ acc)))) {x : Int}
    (h : w'.ownsMap Try.prog 3 (plainElem Try.prog 4) b (acc.length + 1) (D.put (.int .i64 x) (.lit (.bool true)))) : Seen w' b (acc ++ [x]) := by
  refine ⟨_, by rw [List.length_append]; exact h, h2.put _ _, fun y => ?_⟩
  by_cases hy : y = x
  · subst hy
    rw [atKey_put_same h2 (by simp [WideAt.IsKeyLit])]
    simp
  · rw [atKey_put_other (fun e => hy (by injection e)), h3]
    simp [hy]
end Go.Proofs.Ytmmdckijokiomaa
