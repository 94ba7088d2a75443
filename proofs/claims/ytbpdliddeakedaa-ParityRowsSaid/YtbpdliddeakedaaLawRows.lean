/- ParityRows returns true at every input and leaves its arguments alone. No conditions. -/
import Derived.Test.YtbpdliddeakedaaWalkRows
namespace Go.Proofs.Ytbpdliddeakedaa
open Go.ChangeShapes Go.WideShapes Go.ChangeAt Go.RowKit
open Go.ChangeMaps (open_string shut_string)
set_option linter.unusedVariables false

set_option maxRecDepth 100000 in
theorem parityRows_lifted (os : Os) (started : os.Started) (H : Type) (enc : TypeId × Value → H) :
    ReturnsInHanded {} Try.checked os 5 .any (Rows.parityRowsSpec.pre6 enc Try.prog Try.f5 Rows.parityRowsRow.domain false) (Rows.parityRowsSpec.post enc Try.prog Try.f5 false true false false) := by
  refine law_lifted started (by kernel_rfl) Try.func5
    (ChangeSpec.witness6 (enc := enc) (C := Try.checked) false ⟨#[], #[.int .u8 0, .int .u8 0, .int .u16 0], []⟩ 8 (by kernel_rfl) (by kernel_rfl) (by kernel_rfl) (by kernel_rfl)) rfl (by kernel_rfl) (by kernel_rfl) ?_ ?_
  · intro ds hds
    match ds, hds with
    | [d1, d2, d3], _ => rfl
  · intro W base args ds p hval hA
    rw [Try.params5] at hA hval
    obtain ⟨v0, vs0, d0, ds0, p0, q0, hargs, rfl, rfl, h0, r0⟩ := trodAll_cons hA
    obtain ⟨v1, vs1, d1, ds1, p1, q1, rfl, rfl, rfl, h1, r1⟩ := trodAll_cons r0
    obtain ⟨v2, vs2, d2, ds2, p2, q2, rfl, rfl, rfl, h2, r2⟩ := trodAll_cons r1
    obtain ⟨rfl, rfl, rfl⟩ := trodAll_nil r2
    obtain rfl : args = #[v0, v1, v2] := by cases args; simp_all
    obtain ⟨x0, rfl, rfl, rfl, wf0⟩ := open_int Try.underlying5 (hval 0 5 v0 rfl rfl) h0
    obtain ⟨x1, rfl, rfl, rfl, wf1⟩ := open_int Try.underlying5 (hval 1 5 v1 rfl rfl) h1
    obtain ⟨x2, rfl, rfl, rfl, wf2⟩ := open_int Try.underlying32 (hval 2 32 v2 rfl rfl) h2
    exact rows_walk x0 x1 x2 W (bounds_u8 wf0).1 (bounds_u8 wf0).2 (bounds_u8 wf1).1 (bounds_u8 wf1).2 (bounds_u16 wf2).1 (bounds_u16 wf2).2

theorem parityRows_over : Rows.parityRowsRow.holds Try.pinned (OpenSpec.ofChange Rows.parityRowsSpec) :=
  OpenClaim.holds_of_wide 5 Try.f5 rfl rfl rfl rfl rfl rfl rfl ⟨rfl, rfl, rfl, rfl, rfl⟩ rfl rfl rfl rfl rfl (by kernel_rfl) Try.func5 (by kernel_rfl)
    (of_decide_eq_true (by kernel_rfl)) (by unfold Func.isWrapper; first | (rw [if_pos (by decide +kernel)]; kernel_rfl) | (rw [if_neg (by decide +kernel)]; exact ⟨rfl, rfl⟩))
    (fun os started H enc _ => parityRows_lifted os started H enc)

/-- THE STATEMENT -/
theorem parityRows_holds : Rows.ParityRowsSaid := parityRows_over
#print axioms parityRows_holds
end Go.Proofs.Ytbpdliddeakedaa
