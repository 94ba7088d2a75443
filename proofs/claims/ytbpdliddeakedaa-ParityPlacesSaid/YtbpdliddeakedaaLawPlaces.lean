/- ParityPlaces returns true at every input and leaves its arguments alone. No conditions. -/
import Derived.Test.YtbpdliddeakedaaWalkPlaces
namespace Go.Proofs.Ytbpdliddeakedaa
open Go.ChangeShapes Go.WideShapes Go.ChangeAt Go.RowKit
open Go.ChangeMaps (open_string shut_string)
set_option linter.unusedVariables false

set_option maxRecDepth 100000 in
theorem parityPlaces_lifted (os : Os) (started : os.Started) (H : Type) (enc : TypeId × Value → H) :
    ReturnsInHanded {} Try.checked os 6 .any (Rows.parityPlacesSpec.pre6 enc Try.prog Try.f6 Rows.parityPlacesRow.domain false) (Rows.parityPlacesSpec.post enc Try.prog Try.f6 false true false false) := by
  refine law_lifted started (by kernel_rfl) Try.func6
    (ChangeSpec.witness6 (enc := enc) (C := Try.checked) false ⟨#[], #[.int .i64 0, .int .i64 0, .int .i64 0, .int .i64 0, .slice none 0 0], []⟩ 8 (by kernel_rfl) (by kernel_rfl) (by kernel_rfl) (by kernel_rfl)) rfl (by kernel_rfl) (by kernel_rfl) ?_ ?_
  · intro ds hds
    match ds, hds with
    | [d1, d2, d3, d4, d5], _ => rfl
  · intro W base args ds p hval hA
    rw [Try.params6] at hA hval
    obtain ⟨v0, vs0, d0, ds0, p0, q0, hargs, rfl, rfl, h0, r0⟩ := trodAll_cons hA
    obtain ⟨v1, vs1, d1, ds1, p1, q1, rfl, rfl, rfl, h1, r1⟩ := trodAll_cons r0
    obtain ⟨v2, vs2, d2, ds2, p2, q2, rfl, rfl, rfl, h2, r2⟩ := trodAll_cons r1
    obtain ⟨v3, vs3, d3, ds3, p3, q3, rfl, rfl, rfl, h3, r3⟩ := trodAll_cons r2
    obtain ⟨v4, vs4, d4, ds4, p4, q4, rfl, rfl, rfl, h4, r4⟩ := trodAll_cons r3
    obtain ⟨rfl, rfl, rfl⟩ := trodAll_nil r4
    obtain rfl : args = #[v0, v1, v2, v3, v4] := by cases args; simp_all
    obtain ⟨x0, rfl, rfl, rfl, wf0⟩ := open_int Try.underlying3 (hval 0 3 v0 rfl rfl) h0
    obtain ⟨x1, rfl, rfl, rfl, wf1⟩ := open_int Try.underlying3 (hval 1 3 v1 rfl rfl) h1
    obtain ⟨x2, rfl, rfl, rfl, wf2⟩ := open_int Try.underlying3 (hval 2 3 v2 rfl rfl) h2
    obtain ⟨x3, rfl, rfl, rfl, wf3⟩ := open_int Try.underlying3 (hval 3 3 v3 rfl rfl) h3
    obtain ⟨A4, n4, c4, z4, rfl, hn4, hc4, hl4, hr4, hw4⟩ := open_row Try.underlying33 Try.underlying3 (by kernel_rfl) (hval 4 33 v4 rfl rfl) h4
    exact places_walk x0 x1 x2 x3 A4 n4 c4 z4 W hn4 hc4 hr4

theorem parityPlaces_over : Rows.parityPlacesRow.holds Try.pinned (OpenSpec.ofChange Rows.parityPlacesSpec) :=
  OpenClaim.holds_of_wide 6 Try.f6 rfl rfl rfl rfl rfl rfl rfl ⟨rfl, rfl, rfl, rfl, rfl⟩ rfl rfl rfl rfl rfl (by kernel_rfl) Try.func6 (by kernel_rfl)
    (of_decide_eq_true (by kernel_rfl)) (by unfold Func.isWrapper; first | (rw [if_pos (by decide +kernel)]; kernel_rfl) | (rw [if_neg (by decide +kernel)]; exact ⟨rfl, rfl⟩))
    (fun os started H enc _ => parityPlaces_lifted os started H enc)

/-- THE STATEMENT -/
theorem parityPlaces_holds : Rows.ParityPlacesSaid := parityPlaces_over
#print axioms parityPlaces_holds
end Go.Proofs.Ytbpdliddeakedaa
