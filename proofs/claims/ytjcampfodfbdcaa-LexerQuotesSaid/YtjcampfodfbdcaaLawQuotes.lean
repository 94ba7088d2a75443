/- LexerQuotes returns true at every input and leaves its arguments alone. No conditions. -/
import Derived.Test.YtjcampfodfbdcaaWalkQuotes
namespace Go.Proofs.Ytjcampfodfbdcaa
open Go.ChangeShapes Go.WideShapes Go.ChangeAt Go.RowKit
open Go.ChangeMaps (open_string shut_string)
set_option linter.unusedVariables false

set_option maxRecDepth 100000 in
theorem lexerQuotes_lifted (os : Os) (started : os.Started) (H : Type) (enc : TypeId × Value → H) :
    ReturnsInHanded {} Try.checked os 8 .any (Rows.lexerQuotesSpec.pre6 enc Try.prog Try.f8 Rows.lexerQuotesRow.domain false) (Rows.lexerQuotesSpec.post enc Try.prog Try.f8 false true false false) := by
  refine law_lifted started (by kernel_rfl) Try.func8
    (ChangeSpec.witness6 (enc := enc) (C := Try.checked) false ⟨#[], #[.string ByteArray.empty], []⟩ 8 (by kernel_rfl) (by kernel_rfl) (by kernel_rfl) (by kernel_rfl)) rfl (by kernel_rfl) (by kernel_rfl) ?_ ?_
  · intro ds hds
    match ds, hds with
    | [d1], _ => rfl
  · intro W base args ds p hval hA
    rw [Try.params8] at hA hval
    obtain ⟨v0, vs0, d0, ds0, p0, q0, hargs, rfl, rfl, h0, r0⟩ := trodAll_cons hA
    obtain ⟨rfl, rfl, rfl⟩ := trodAll_nil r0
    obtain rfl : args = #[v0] := by cases args; simp_all
    obtain ⟨s0, rfl, rfl, rfl, hs0⟩ := open_string Try.underlying9 (hval 0 9 v0 rfl rfl) h0
    exact quotes_walk s0 W

theorem lexerQuotes_over : Rows.lexerQuotesRow.holds Try.pinned (OpenSpec.ofChange Rows.lexerQuotesSpec) :=
  OpenClaim.holds_of_wide 8 Try.f8 rfl rfl rfl rfl rfl rfl rfl ⟨rfl, rfl, rfl, rfl, rfl⟩ rfl rfl rfl rfl rfl (by kernel_rfl) Try.func8 (by kernel_rfl)
    (of_decide_eq_true (by kernel_rfl)) (by unfold Func.isWrapper; first | (rw [if_pos (by decide +kernel)]; kernel_rfl) | (rw [if_neg (by decide +kernel)]; exact ⟨rfl, rfl⟩))
    (fun os started H enc _ => lexerQuotes_lifted os started H enc)

/-- THE STATEMENT -/
theorem lexerQuotes_holds : Rows.LexerQuotesSaid := lexerQuotes_over
#print axioms lexerQuotes_holds
end Go.Proofs.Ytjcampfodfbdcaa
