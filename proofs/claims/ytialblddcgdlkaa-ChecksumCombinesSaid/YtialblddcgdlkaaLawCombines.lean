/- ChecksumCombines returns true at every input and leaves its arguments alone. No conditions. -/
import Derived.Test.YtialblddcgdlkaaWalkD
namespace Go.Proofs.Ytialblddcgdlkaa
open Go.ChangeShapes Go.WideShapes Go.ChangeAt Go.RowKit
open Go.ChangeMaps (open_string shut_string)
set_option linter.unusedVariables false

set_option maxRecDepth 100000 in
theorem checksumCombines_lifted (os : Os) (started : os.Started) (H : Type) (enc : TypeId × Value → H) :
    ReturnsInHanded {} Try.checked os 9 .any (Rows.checksumCombinesSpec.pre6 enc Try.prog Try.f9 Rows.checksumCombinesRow.domain false) (Rows.checksumCombinesSpec.post enc Try.prog Try.f9 false true false false) := by
  refine law_lifted started (by kernel_rfl) Try.func9
    (ChangeSpec.witness6 (enc := enc) (C := Try.checked) false ⟨#[], #[.slice none 0 0, .slice none 0 0, .int .u32 0, .int .u32 0, .int .i64 0], []⟩ 8 (by kernel_rfl) (by kernel_rfl) (by kernel_rfl) (by kernel_rfl)) rfl (by kernel_rfl) (by kernel_rfl) ?_ ?_
  · intro ds hds
    match ds, hds with
    | [d1, d2, d3, d4, d5], _ => rfl
  · intro W base args ds p hval hA
    rw [Try.params9] at hA hval
    obtain ⟨v0, vs0, d0, ds0, p0, q0, hargs, rfl, rfl, h0, r0⟩ := trodAll_cons hA
    obtain ⟨v1, vs1, d1, ds1, p1, q1, rfl, rfl, rfl, h1, r1⟩ := trodAll_cons r0
    obtain ⟨v2, vs2, d2, ds2, p2, q2, rfl, rfl, rfl, h2, r2⟩ := trodAll_cons r1
    obtain ⟨v3, vs3, d3, ds3, p3, q3, rfl, rfl, rfl, h3, r3⟩ := trodAll_cons r2
    obtain ⟨v4, vs4, d4, ds4, p4, q4, rfl, rfl, rfl, h4, r4⟩ := trodAll_cons r3
    obtain ⟨rfl, rfl, rfl⟩ := trodAll_nil r4
    obtain rfl : args = #[v0, v1, v2, v3, v4] := by cases args; simp_all
    obtain ⟨A0, n0, c0, z0, rfl, hn0, hc0, hl0, hr0, hw0⟩ := open_row Try.underlying23 Try.underlying33 (by kernel_rfl) (hval 0 23 v0 rfl rfl) h0
    obtain ⟨A1, n1, c1, z1, rfl, hn1, hc1, hl1, hr1, hw1⟩ := open_row Try.underlying23 Try.underlying33 (by kernel_rfl) (hval 1 23 v1 rfl rfl) h1
    obtain ⟨x2, rfl, rfl, rfl, wf2⟩ := open_int Try.underlying24 (hval 2 24 v2 rfl rfl) h2
    obtain ⟨x3, rfl, rfl, rfl, wf3⟩ := open_int Try.underlying24 (hval 3 24 v3 rfl rfl) h3
    obtain ⟨x4, rfl, rfl, rfl, wf4⟩ := open_int Try.underlying3 (hval 4 3 v4 rfl rfl) h4
    exact by
      obtain ⟨us, hx⟩ := v64_list z0 hw0
      obtain ⟨ws, hx2⟩ := v64_list z1 hw1
      obtain ⟨s, hx3⟩ := v32_of x2 wf2
      obtain ⟨t, hx4⟩ := v32_of x3 wf3
      rw [hx] at hr0
      rw [hx2] at hr1
      rw [hx3, hx4]
      exact combines_walk A0 A1 n0 c0 n1 c1 us ws s t x4 W (by omega) (by omega) hr0 hr1

theorem checksumCombines_over : Rows.checksumCombinesRow.holds Try.pinned (OpenSpec.ofChange Rows.checksumCombinesSpec) :=
  OpenClaim.holds_of_wide 9 Try.f9 rfl rfl rfl rfl rfl rfl rfl ⟨rfl, rfl, rfl, rfl, rfl⟩ rfl rfl rfl rfl rfl (by kernel_rfl) Try.func9 (by kernel_rfl)
    (of_decide_eq_true (by kernel_rfl)) (by unfold Func.isWrapper; first | (rw [if_pos (by decide +kernel)]; kernel_rfl) | (rw [if_neg (by decide +kernel)]; exact ⟨rfl, rfl⟩))
    (fun os started H enc _ => checksumCombines_lifted os started H enc)

/-- THE STATEMENT -/
theorem checksumCombines_holds : Rows.ChecksumCombinesSaid := checksumCombines_over
#print axioms checksumCombines_holds
end Go.Proofs.Ytialblddcgdlkaa
