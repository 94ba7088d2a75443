/- NamesApart returns true at every input and leaves its arguments alone. No conditions. -/
import Derived.Test.YtnodlkjajgeepaaDoorWalkApart
import Derived.Test.YtnodlkjajgeepaaDoorTie
import Derived.Test.YtnodlkjajgeepaaDoorCards
import Derived.SevenTiedAt
namespace Go.Proofs.YtnodlkjajgeepaaDoor
open Go.ChangeShapes Go.WideShapes Go.ChangeAt Go.RowKit
open Go.ChangeMaps (open_string shut_string)
set_option linter.unusedVariables false

set_option maxRecDepth 100000 in
theorem namesApart_lifted (os : Os) (started : os.Started) (H : Type) (enc : TypeId × Value → H) :
    ReturnsInHanded {} Tryd.checked os 3 .any (fun w args => (Rows.namesApartSpec.pre enc Tryd.prog Tryd.f3 [] false w args ∧ laidMetH Tryd.prog laidL w) ∧ sizedMet enc Tryd.prog Tryd.f3 (OpenSpec.ofChange Rows.namesApartSpec) false w args) (Rows.namesApartSpec.post enc Tryd.prog Tryd.f3 false true false false) := by
  refine law_lifted_laid started (by kernel_rfl) Tryd.func3
    (ChangeSpec.witness_shaped (enc := enc) (C := Tryd.checked) (os := os) (X := fun w _ => laidMetH Tryd.prog laidL w) false (World.doorLaid Tryd.prog 400 os) #[.slice none 0 0] 8 rfl (World.shaped_of_RefB (by kernel_rfl) (by kernel_rfl)) (by kernel_rfl) (by kernel_rfl) (by kernel_rfl) (door_met os _)) rfl (by kernel_rfl) (by kernel_rfl) ?_ ?_
  · intro ds hds
    match ds, hds with
    | [d1], _ => rfl
  · intro W base args ds p hval hA hS
    rw [Tryd.params3] at hA hval
    obtain ⟨v0, vs0, d0, ds0, p0, q0, hargs, rfl, rfl, h0, r0⟩ := trodAll_cons hA
    obtain ⟨rfl, rfl, rfl⟩ := trodAll_nil r0
    obtain rfl : args = #[v0] := by cases args; simp_all
    obtain ⟨A0, n0, c0, z0, rfl, hn0, hc0, hl0, hr0, hw0⟩ := open_row Tryd.underlying22 Tryd.underlying3 (by kernel_rfl) (hval 0 22 v0 rfl rfl) h0
    exact apart_walk A0 n0 c0 z0 W hn0 hc0 hr0 hS

theorem namesApart_over : Rows.namesApartRow.holds Tryd.pinned (OpenSpec.ofChange Rows.namesApartSpec) :=
  OpenClaim.holds_of_wide 3 Tryd.f3 rfl rfl rfl rfl rfl rfl rfl ⟨rfl, rfl, rfl, rfl, rfl⟩ rfl rfl rfl rfl rfl (by kernel_rfl) Tryd.func3 (by kernel_rfl)
    (of_decide_eq_true (by kernel_rfl)) (by unfold Func.isWrapper; first | (rw [if_pos (by decide +kernel)]; kernel_rfl) | (rw [if_neg (by decide +kernel)]; exact ⟨rfl, rfl⟩))
    (fun os started H enc _ => namesApart_lifted os started H enc)

/-- THE STATEMENT: the card, its one listed variable tied to the program's text -/
theorem namesApart_card : Rows.NamesApartCardSaid :=
  Claim7.holds_tied_plain_at .later [] [.widerDeep] true (true, "9f8f9b74cf95e4f133a2258e79689bacec7cba91e6ad613b21e30d8285d2211d") false
    namesApart_over (fun _ h => by cases h) (by kernel_rfl) (fun _ h => by cases h) namesApart_row_tie rfl ⟨rfl, rfl⟩ (by kernel_rfl) rfl
    (fun f fn hf hfn => by
      obtain rfl : f = 3 := Option.some.inj ((show Tryd.prog.funcNamed "volumegroup/volumegrouplaw08.NamesApart" = some 3 by kernel_rfl).symm.trans hf) |>.symm
      obtain rfl : fn = Tryd.f3 := (Option.some.inj (Tryd.func3.symm.trans hfn)).symm
      exact ⟨by kernel_rfl, fun j t ht => by
        rw [Tryd.params3] at ht
        rcases j with _ | j
        · obtain rfl : t = 22 := by simpa using ht.symm
          exact (show Tryd.prog.wantsStandIn 22 = false by kernel_rfl)
        · simp at ht⟩)
    (by kernel_rfl)
#print axioms namesApart_card
end Go.Proofs.YtnodlkjajgeepaaDoor
