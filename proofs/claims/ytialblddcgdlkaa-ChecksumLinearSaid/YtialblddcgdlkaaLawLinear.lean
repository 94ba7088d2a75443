/- ChecksumLinear returns true at every input and leaves its arguments alone. No conditions. -/
import Derived.Test.YtialblddcgdlkaaLinW
import Derived.Test.YtialblddcgdlkaaLinO
namespace Go.Proofs.Ytialblddcgdlkaa
open Go.ChangeShapes Go.WideShapes Go.ChangeAt Go.RowKit
open Go.ChangeMaps (open_string shut_string)
set_option linter.unusedVariables false

set_option maxRecDepth 100000 in
theorem checksumLinear_lifted (os : Os) (started : os.Started) (H : Type) (enc : TypeId × Value → H) :
    ReturnsInHanded {} Try.checked os 7 .any (Rows.checksumLinearSpec.pre6 enc Try.prog Try.f7 Rows.checksumLinearRow.domain false) (Rows.checksumLinearSpec.post enc Try.prog Try.f7 false true false false) := by
  refine law_lifted started (by kernel_rfl) Try.func7
    (ChangeSpec.witness6 (enc := enc) (C := Try.checked) false ⟨#[], #[.slice none 0 0], []⟩ 8 (by kernel_rfl) (by kernel_rfl) (by kernel_rfl) (by kernel_rfl)) rfl (by kernel_rfl) (by kernel_rfl) ?_ ?_
  · intro ds hds
    match ds, hds with
    | [d1], _ => rfl
  · intro W base args ds p hval hA
    rw [Try.params7] at hA hval
    obtain ⟨v0, vs0, d0, ds0, p0, q0, hargs, rfl, rfl, h0, r0⟩ := trodAll_cons hA
    obtain ⟨rfl, rfl, rfl⟩ := trodAll_nil r0
    obtain rfl : args = #[v0] := by cases args; simp_all
    obtain ⟨A0, n0, c0, T, rfl, hn0, hc0, hT, hr0⟩ := open_triples Try.underlying36 Try.underlying37 Try.underlying33 (by kernel_rfl) (by kernel_rfl) (hval 0 36 v0 rfl rfl) h0
    exact linear_walk A0 n0 c0 T W hT (by omega) hr0

theorem checksumLinear_over : Rows.checksumLinearRow.holds Try.pinned (OpenSpec.ofChange Rows.checksumLinearSpec) :=
  OpenClaim.holds_of_wide 7 Try.f7 rfl rfl rfl rfl rfl rfl rfl ⟨rfl, rfl, rfl, rfl, rfl⟩ rfl rfl rfl rfl rfl (by kernel_rfl) Try.func7 (by kernel_rfl)
    (of_decide_eq_true (by kernel_rfl)) (by unfold Func.isWrapper; first | (rw [if_pos (by decide +kernel)]; kernel_rfl) | (rw [if_neg (by decide +kernel)]; exact ⟨rfl, rfl⟩))
    (fun os started H enc _ => checksumLinear_lifted os started H enc)

/-- THE STATEMENT -/
theorem checksumLinear_holds : Rows.ChecksumLinearSaid := checksumLinear_over
#print axioms checksumLinear_holds
end Go.Proofs.Ytialblddcgdlkaa
