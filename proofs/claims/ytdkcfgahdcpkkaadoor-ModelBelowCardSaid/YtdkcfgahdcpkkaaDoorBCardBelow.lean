/- ModelBelow returns true at every input and leaves its arguments alone. No conditions. -/
import Derived.Test.YtdkcfgahdcpkkaaDoorBWalkBelow
import Derived.Test.YtdkcfgahdcpkkaaDoorTie
import Derived.Test.YtdkcfgahdcpkkaaDoorCards
import Derived.SevenTiedAt
set_option linter.all false
set_option linter.unusedVariables false
set_option linter.unusedSimpArgs false
namespace Go.Proofs.YtdkcfgahdcpkkaaDoor
open Go.ChangeShapes Go.WideShapes Go.ChangeAt Go.RowKit
open Go.ChangeMaps (open_string shut_string)
set_option linter.unusedVariables false
set_option maxRecDepth 100000
set_option maxRecDepth 100000 in
theorem modelBelow_lifted (os : Os) (started : os.Started) (H : Type) (enc : TypeId × Value → H) :
  ReturnsInHanded {} Tryd.checked os 5 .any (fun w args => (Rows.modelBelowSpec.pre enc Tryd.prog Tryd.f5 [] false w args ∧ laidMetH Tryd.prog laidL w) ∧ sizedMet enc Tryd.prog Tryd.f5 (OpenSpec.ofChange Rows.modelBelowSpec) false w args) (Rows.modelBelowSpec.post enc Tryd.prog Tryd.f5 false true false false) := by
 refine law_lifted_laid started (by kernel_rfl) Tryd.func5
  (ChangeSpec.witness_shaped (enc := enc) (C := Tryd.checked) (os := os) (X := fun w _ => laidMetH Tryd.prog laidL w) false (World.doorLaid Tryd.prog 400 os) #[.slice none 0 0] 8 rfl (World.shaped_of_RefB (by kernel_rfl) (by kernel_rfl)) (by kernel_rfl) (by kernel_rfl) (by kernel_rfl) (door_met os _)) rfl (by kernel_rfl) (by kernel_rfl) ?_ ?_
 ·intro ds hds
  match ds, hds with
  | [d1], _ => rfl
 ·intro W base args ds p hval hA hS
  rw [Tryd.params5] at hA hval
  obtain ⟨v0, vs0, d0, ds0, p0, q0, hargs, rfl, rfl, h0, r0⟩ := trodAll_cons hA
  obtain ⟨rfl, rfl, rfl⟩ := trodAll_nil r0
  obtain rfl : args = #[v0] := by cases args; simp_all
  obtain ⟨A0, n0, c0, z0, rfl, hn0, hc0, hl0, hr0, hw0⟩ := open_row Tryd.underlying22 Tryd.underlying3 (by kernel_rfl) (hval 0 22 v0 rfl rfl) h0
  exact below_walk A0 n0 c0 z0 W hn0 hc0 hr0 hS
theorem modelBelow_over : Rows.modelBelowRow.holds Tryd.pinned (OpenSpec.ofChange Rows.modelBelowSpec) :=
 OpenClaim.holds_of_wide 5 Tryd.f5 rfl rfl rfl rfl rfl rfl rfl ⟨rfl, rfl, rfl, rfl, rfl⟩ rfl rfl rfl rfl rfl (by kernel_rfl) Tryd.func5 (by kernel_rfl)
  (of_decide_eq_true (by kernel_rfl)) (by unfold Func.isWrapper; first | (rw [if_pos (by decide +kernel)]; kernel_rfl) | (rw [if_neg (by decide +kernel)]; exact ⟨rfl, rfl⟩))
  (fun os started H enc _ => modelBelow_lifted os started H enc)
/-- THE STATEMENT: the card, its one listed variable tied to the program's text -/
theorem modelBelow_card : Rows.ModelBelowCardSaid :=
 Claim7.holds_tied_plain_at .later [] [.widerDeep] true (true, "97d92cc50b48428903a7801de5069f3246158862b580407877adbac374272e0c") false
  modelBelow_over (fun _ h => by cases h) (by kernel_rfl) (fun _ h => by cases h) modelBelow_row_tie rfl ⟨rfl, rfl⟩ (by kernel_rfl) rfl
  (fun f fn hf hfn => by
   obtain rfl : f = 5 := Option.some.inj ((show Tryd.prog.funcNamed "volumegroup/volumegrouplaw09.ModelBelow" = some 5 by kernel_rfl).symm.trans hf) |>.symm
   obtain rfl : fn = Tryd.f5 := (Option.some.inj (Tryd.func5.symm.trans hfn)).symm
   exact ⟨by kernel_rfl, fun j t ht => by
    rw [Tryd.params5] at ht
    rcases j with _ | j
    ·obtain rfl : t = 22 := by simpa using ht.symm
     exact (show Tryd.prog.wantsStandIn 22 = false by kernel_rfl)
    ·simp at ht⟩)
  (by kernel_rfl)
#print axioms modelBelow_card
end Go.Proofs.YtdkcfgahdcpkkaaDoor
