/- ChecksumAssociates returns true at every input and leaves its arguments alone. No conditions. -/
import Derived.Test.YtialblddcgdlkaaWalkB
namespace Go.Proofs.Ytialblddcgdlkaa
open Go.ChangeShapes Go.WideShapes Go.ChangeAt Go.RowKit
open Go.ChangeMaps (open_string shut_string)
set_option linter.unusedVariables false

set_option maxRecDepth 100000 in
theorem checksumAssociates_lifted (os : Os) (started : os.Started) (H : Type) (enc : TypeId × Value → H) :
    ReturnsInHanded {} Try.checked os 8 .any (Rows.checksumAssociatesSpec.pre6 enc Try.prog Try.f8 Rows.checksumAssociatesRow.domain false) (Rows.checksumAssociatesSpec.post enc Try.prog Try.f8 false true false false) := by
  refine law_lifted started (by kernel_rfl) Try.func8
    (ChangeSpec.witness6 (enc := enc) (C := Try.checked) false ⟨#[], #[.int .u32 0, .int .u32 0, .int .u32 0, .int .u8 0, .int .u8 0], []⟩ 8 (by kernel_rfl) (by kernel_rfl) (by kernel_rfl) (by kernel_rfl)) rfl (by kernel_rfl) (by kernel_rfl) ?_ ?_
  · intro ds hds
    match ds, hds with
    | [d1, d2, d3, d4, d5], _ => rfl
  · intro W base args ds p hval hA
    rw [Try.params8] at hA hval
    obtain ⟨v0, vs0, d0, ds0, p0, q0, hargs, rfl, rfl, h0, r0⟩ := trodAll_cons hA
    obtain ⟨v1, vs1, d1, ds1, p1, q1, rfl, rfl, rfl, h1, r1⟩ := trodAll_cons r0
    obtain ⟨v2, vs2, d2, ds2, p2, q2, rfl, rfl, rfl, h2, r2⟩ := trodAll_cons r1
    obtain ⟨v3, vs3, d3, ds3, p3, q3, rfl, rfl, rfl, h3, r3⟩ := trodAll_cons r2
    obtain ⟨v4, vs4, d4, ds4, p4, q4, rfl, rfl, rfl, h4, r4⟩ := trodAll_cons r3
    obtain ⟨rfl, rfl, rfl⟩ := trodAll_nil r4
    obtain rfl : args = #[v0, v1, v2, v3, v4] := by cases args; simp_all
    obtain ⟨x0, rfl, rfl, rfl, wf0⟩ := open_int Try.underlying24 (hval 0 24 v0 rfl rfl) h0
    obtain ⟨x1, rfl, rfl, rfl, wf1⟩ := open_int Try.underlying24 (hval 1 24 v1 rfl rfl) h1
    obtain ⟨x2, rfl, rfl, rfl, wf2⟩ := open_int Try.underlying24 (hval 2 24 v2 rfl rfl) h2
    obtain ⟨x3, rfl, rfl, rfl, wf3⟩ := open_int Try.underlying5 (hval 3 5 v3 rfl rfl) h3
    obtain ⟨x4, rfl, rfl, rfl, wf4⟩ := open_int Try.underlying5 (hval 4 5 v4 rfl rfl) h4
    exact by
      obtain ⟨a, e1⟩ := v32_of x0 wf0
      obtain ⟨b, e2⟩ := v32_of x1 wf1
      obtain ⟨c, e3⟩ := v32_of x2 wf2
      have b3 := bounds_u8 wf3
      have b4 := bounds_u8 wf4
      obtain ⟨m, rfl⟩ := Int.eq_ofNat_of_zero_le b3.1
      obtain ⟨n, rfl⟩ := Int.eq_ofNat_of_zero_le b4.1
      rw [e1, e2, e3]
      exact assoc_walk a b c m n (by omega) (by omega) W

theorem checksumAssociates_over : Rows.checksumAssociatesRow.holds Try.pinned (OpenSpec.ofChange Rows.checksumAssociatesSpec) :=
  OpenClaim.holds_of_wide 8 Try.f8 rfl rfl rfl rfl rfl rfl rfl ⟨rfl, rfl, rfl, rfl, rfl⟩ rfl rfl rfl rfl rfl (by kernel_rfl) Try.func8 (by kernel_rfl)
    (of_decide_eq_true (by kernel_rfl)) (by unfold Func.isWrapper; first | (rw [if_pos (by decide +kernel)]; kernel_rfl) | (rw [if_neg (by decide +kernel)]; exact ⟨rfl, rfl⟩))
    (fun os started H enc _ => checksumAssociates_lifted os started H enc)

/-- THE STATEMENT -/
theorem checksumAssociates_holds : Rows.ChecksumAssociatesSaid := checksumAssociates_over
#print axioms checksumAssociates_holds
end Go.Proofs.Ytialblddcgdlkaa
