/- LexerBlanks returns true at every input and leaves its arguments alone. No conditions. -/
import Derived.Test.YtjcampfodfbdcaaWalkBlanks
namespace Go.Proofs.Ytjcampfodfbdcaa
open Go.ChangeShapes Go.WideShapes Go.ChangeAt Go.RowKit
open Go.ChangeMaps (open_string shut_string)
set_option linter.unusedVariables false

set_option maxRecDepth 100000 in
theorem lexerBlanks_lifted (os : Os) (started : os.Started) (H : Type) (enc : TypeId × Value → H) :
    ReturnsInHanded {} Try.checked os 7 .any (Rows.lexerBlanksSpec.pre6 enc Try.prog Try.f7 Rows.lexerBlanksRow.domain false) (Rows.lexerBlanksSpec.post enc Try.prog Try.f7 false true false false) := by
  refine law_lifted started (by kernel_rfl) Try.func7
    (ChangeSpec.witness6 (enc := enc) (C := Try.checked) false ⟨#[], #[.slice none 0 0, .int .u8 0], []⟩ 8 (by kernel_rfl) (by kernel_rfl) (by kernel_rfl) (by kernel_rfl)) rfl (by kernel_rfl) (by kernel_rfl) ?_ ?_
  · intro ds hds
    match ds, hds with
    | [d1, d2], _ => rfl
  · intro W base args ds p hval hA
    rw [Try.params7] at hA hval
    obtain ⟨v0, vs0, d0, ds0, p0, q0, hargs, rfl, rfl, h0, r0⟩ := trodAll_cons hA
    obtain ⟨v1, vs1, d1, ds1, p1, q1, rfl, rfl, rfl, h1, r1⟩ := trodAll_cons r0
    obtain ⟨rfl, rfl, rfl⟩ := trodAll_nil r1
    obtain rfl : args = #[v0, v1] := by cases args; simp_all
    obtain ⟨A0, n0, c0, z0, rfl, hn0, hc0, hl0, hr0, hw0⟩ := open_row Try.underlying24 Try.underlying3 (by kernel_rfl) (hval 0 24 v0 rfl rfl) h0
    obtain ⟨x1, rfl, rfl, rfl, wf1⟩ := open_int Try.underlying5 (hval 1 5 v1 rfl rfl) h1
    exact by
      have hb := bounds_u8 wf1
      obtain ⟨k, rfl⟩ : ∃ k : Nat, x1 = (k : Int) := ⟨x1.toNat, by omega⟩
      exact blanks_walk A0 n0 c0 z0 k (by omega) W hn0 hc0 hr0

theorem lexerBlanks_over : Rows.lexerBlanksRow.holds Try.pinned (OpenSpec.ofChange Rows.lexerBlanksSpec) :=
  OpenClaim.holds_of_wide 7 Try.f7 rfl rfl rfl rfl rfl rfl rfl ⟨rfl, rfl, rfl, rfl, rfl⟩ rfl rfl rfl rfl rfl (by kernel_rfl) Try.func7 (by kernel_rfl)
    (of_decide_eq_true (by kernel_rfl)) (by unfold Func.isWrapper; first | (rw [if_pos (by decide +kernel)]; kernel_rfl) | (rw [if_neg (by decide +kernel)]; exact ⟨rfl, rfl⟩))
    (fun os started H enc _ => lexerBlanks_lifted os started H enc)

/-- THE STATEMENT -/
theorem lexerBlanks_holds : Rows.LexerBlanksSaid := lexerBlanks_over
#print axioms lexerBlanks_holds
end Go.Proofs.Ytjcampfodfbdcaa
