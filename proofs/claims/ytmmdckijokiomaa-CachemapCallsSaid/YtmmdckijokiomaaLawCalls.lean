/- CachemapCalls returns true at every input and leaves its arguments alone. No conditions. -/
import Derived.Test.YtmmdckijokiomaaCalls
namespace Go.Proofs.Ytmmdckijokiomaa
open Go.ChangeShapes Go.WideShapes Go.ChangeAt Go.RowKit
open Go.ChangeMaps (open_string shut_string)
set_option linter.unusedVariables false

set_option maxRecDepth 100000 in
theorem cachemapCalls_lifted (os : Os) (started : os.Started) (H : Type) (enc : TypeId × Value → H) :
    ReturnsInHanded {} Try.checked os 4 .any (Rows.cachemapCallsSpec.pre6 enc Try.prog Try.f4 Rows.cachemapCallsRow.domain false) (Rows.cachemapCallsSpec.post enc Try.prog Try.f4 false true false false) := by
  refine law_lifted started (by kernel_rfl) Try.func4
    (ChangeSpec.witness6 (enc := enc) (C := Try.checked) false ⟨#[], #[.slice none 0 0], []⟩ 8 (by kernel_rfl) (by kernel_rfl) (by kernel_rfl) (by kernel_rfl)) rfl (by kernel_rfl) (by kernel_rfl) ?_ ?_
  · intro ds hds
    match ds, hds with
    | [d1], _ => rfl
  · intro W base args ds p hval hA
    rw [Try.params4] at hA hval
    obtain ⟨v0, vs0, d0, ds0, p0, q0, hargs, rfl, rfl, h0, r0⟩ := trodAll_cons hA
    obtain ⟨rfl, rfl, rfl⟩ := trodAll_nil r0
    obtain rfl : args = #[v0] := by cases args; simp_all
    obtain ⟨A0, n0, c0, z0, rfl, hn0, hc0, hl0, hr0, hw0⟩ := open_row Try.underlying22 Try.underlying3 (by kernel_rfl) (hval 0 22 v0 rfl rfl) h0
    exact calls_walk A0 n0 c0 z0 W hn0 hc0 hr0

theorem cachemapCalls_over : Rows.cachemapCallsRow.holds Try.pinned (OpenSpec.ofChange Rows.cachemapCallsSpec) :=
  OpenClaim.holds_of_wide 4 Try.f4 rfl rfl rfl rfl rfl rfl rfl ⟨rfl, rfl, rfl, rfl, rfl⟩ rfl rfl rfl rfl rfl (by kernel_rfl) Try.func4 (by kernel_rfl)
    (of_decide_eq_true (by kernel_rfl)) (by unfold Func.isWrapper; first | (rw [if_pos (by decide +kernel)]; kernel_rfl) | (rw [if_neg (by decide +kernel)]; exact ⟨rfl, rfl⟩))
    (fun os started H enc _ => cachemapCalls_lifted os started H enc)

/-- THE STATEMENT -/
theorem cachemapCalls_holds : Rows.CachemapCallsSaid := cachemapCalls_over
#print axioms cachemapCalls_holds
end Go.Proofs.Ytmmdckijokiomaa
