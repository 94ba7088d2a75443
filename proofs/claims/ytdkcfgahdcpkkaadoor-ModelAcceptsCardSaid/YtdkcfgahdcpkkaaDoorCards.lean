/-
  DERIVED. GIVEN WITH THE SEED: THE CARDS: each row of YtdkcfgahdcpkkaaDoorRows.lean that lists a variable, with what it lists TIED to the program's text (the seventh form; the later family's looks); each row that meets fmt, with fmt's text TOLD by the authors' own Lean function (tested against real Go, not proved from fmt's source: count such statements apart). THE CARD IS WHAT COUNTS. Prove the row's statement (the work); the ties are given (YtdkcfgahdcpkkaaDoorTie.lean); close each card by the builder's one call (the guide's Derived/Test/ToyasCard.lean, 'card_holds'). Laid BY PROGRAM, IN A SANDBOX (cutbox-door.mjs). By AI agents, Wed Nov 11 2026. No macro, syntax, notation, axiom, sorry.
-/
import Derived.Test.YtdkcfgahdcpkkaaDoorRows
import GoSem.ClaimSeven
namespace Go.Proofs.YtdkcfgahdcpkkaaDoor
namespace Rows

/-- THE TIED CARD OF 'volumegrouplaw09.ModelSpaces'. -/
def modelSpacesCard : Claim7 := { stood := { row := modelSpacesRow, standIns := [], harness := (true, "97d92cc50b48428903a7801de5069f3246158862b580407877adbac374272e0c"), looks := false }, kinds := [], alts := [], laidByText := true, laidKinds := [.widerDeep], laidTests := true, laidLooks := .later }
def ModelSpacesCardSaid : Prop := Claim7.holds Tryd.pinned (.plain (OpenSpec.ofChange modelSpacesSpec)) modelSpacesCard

/-- THE TIED CARD OF 'volumegrouplaw09.ModelSame'. -/
def modelSameCard : Claim7 := { stood := { row := modelSameRow, standIns := [], harness := (true, "97d92cc50b48428903a7801de5069f3246158862b580407877adbac374272e0c"), looks := false }, kinds := [], alts := [], laidByText := true, laidKinds := [.widerDeep], laidTests := true, laidLooks := .later }
def ModelSameCardSaid : Prop := Claim7.holds Tryd.pinned (.plain (OpenSpec.ofChange modelSameSpec)) modelSameCard

/-- THE TIED CARD OF 'volumegrouplaw09.ModelBelow'. -/
def modelBelowCard : Claim7 := { stood := { row := modelBelowRow, standIns := [], harness := (true, "97d92cc50b48428903a7801de5069f3246158862b580407877adbac374272e0c"), looks := false }, kinds := [], alts := [], laidByText := true, laidKinds := [.widerDeep], laidTests := true, laidLooks := .later }
def ModelBelowCardSaid : Prop := Claim7.holds Tryd.pinned (.plain (OpenSpec.ofChange modelBelowSpec)) modelBelowCard

/-- THE TIED CARD OF 'volumegrouplaw09.ModelAccepts'. -/
def modelAcceptsCard : Claim7 := { stood := { row := modelAcceptsRow, standIns := [], harness := (true, "97d92cc50b48428903a7801de5069f3246158862b580407877adbac374272e0c"), looks := false }, kinds := [], alts := [], laidByText := true, laidKinds := [.widerDeep], laidTests := true, laidLooks := .later }
def ModelAcceptsCardSaid : Prop := Claim7.holds Tryd.pinned (.plain (OpenSpec.ofChange modelAcceptsSpec)) modelAcceptsCard

/-- THE SECOND FORM's CARD OF 'volumegrouplaw09.ModelSpaces'. -/
def modelSpacesUptoCard : Claim7 := { stood := { row := modelSpacesUptoRow, standIns := [], harness := (true, "97d92cc50b48428903a7801de5069f3246158862b580407877adbac374272e0c"), looks := false }, kinds := [], alts := [], laidByText := true, laidKinds := [.widerDeep], laidTests := true, laidLooks := .later }
def ModelSpacesUptoCardSaid : Prop := Claim7.holds Tryd.pinned (.plain (OpenSpec.upto modelSpacesSpec)) modelSpacesUptoCard

/-- THE SECOND FORM's CARD OF 'volumegrouplaw09.ModelSame'. -/
def modelSameUptoCard : Claim7 := { stood := { row := modelSameUptoRow, standIns := [], harness := (true, "97d92cc50b48428903a7801de5069f3246158862b580407877adbac374272e0c"), looks := false }, kinds := [], alts := [], laidByText := true, laidKinds := [.widerDeep], laidTests := true, laidLooks := .later }
def ModelSameUptoCardSaid : Prop := Claim7.holds Tryd.pinned (.plain (OpenSpec.upto modelSameSpec)) modelSameUptoCard

/-- THE SECOND FORM's CARD OF 'volumegrouplaw09.ModelBelow'. -/
def modelBelowUptoCard : Claim7 := { stood := { row := modelBelowUptoRow, standIns := [], harness := (true, "97d92cc50b48428903a7801de5069f3246158862b580407877adbac374272e0c"), looks := false }, kinds := [], alts := [], laidByText := true, laidKinds := [.widerDeep], laidTests := true, laidLooks := .later }
def ModelBelowUptoCardSaid : Prop := Claim7.holds Tryd.pinned (.plain (OpenSpec.upto modelBelowSpec)) modelBelowUptoCard

/-- THE SECOND FORM's CARD OF 'volumegrouplaw09.ModelAccepts'. -/
def modelAcceptsUptoCard : Claim7 := { stood := { row := modelAcceptsUptoRow, standIns := [], harness := (true, "97d92cc50b48428903a7801de5069f3246158862b580407877adbac374272e0c"), looks := false }, kinds := [], alts := [], laidByText := true, laidKinds := [.widerDeep], laidTests := true, laidLooks := .later }
def ModelAcceptsUptoCardSaid : Prop := Claim7.holds Tryd.pinned (.plain (OpenSpec.upto modelAcceptsSpec)) modelAcceptsUptoCard
end Rows
end Go.Proofs.YtdkcfgahdcpkkaaDoor
