/-
  DERIVED. GIVEN WITH THE SEED: THE CARDS: each row of YtfmdbmalmeimbaaDoorRows.lean that lists a variable, with what it lists TIED to the program's text (the seventh form; the later family's looks); each row that meets fmt, with fmt's text TOLD by the authors' own Lean function (tested against real Go, not proved from fmt's source: count such statements apart). THE CARD IS WHAT COUNTS. Prove the row's statement (the work); the ties are given (YtfmdbmalmeimbaaDoorTie.lean); close each card by the builder's one call (the guide's Derived/Test/ToyasCard.lean, 'card_holds'). Laid BY PROGRAM, IN A SANDBOX (cutbox-door.mjs). By AI agents, Wed Nov 11 2026. No macro, syntax, notation, axiom, sorry.
-/
import Derived.Test.YtfmdbmalmeimbaaDoorRows
import GoSem.ClaimSeven
namespace Go.Proofs.YtfmdbmalmeimbaaDoor
namespace Rows

/-- THE TIED CARD OF 'volumegrouplaw07.ConfigRaw'. -/
def configRawCard : Claim7 := { stood := { row := configRawRow, standIns := [], harness := (true, "25fd85897295e08d910c9456116f4c03c2c07dfb4890808e43f1086cbc83639d"), looks := true }, kinds := [], alts := [], laidByText := true, laidKinds := [.data, .data, .data], laidTests := true, laidLooks := .later }
def ConfigRawCardSaid : Prop := Claim7.holds Tryd.pinned (.plain (OpenSpec.ofChange configRawSpec)) configRawCard

/-- THE TIED CARD OF 'volumegrouplaw07.ConfigTexts'. -/
def configTextsCard : Claim7 := { stood := { row := configTextsRow, standIns := [], harness := (true, "25fd85897295e08d910c9456116f4c03c2c07dfb4890808e43f1086cbc83639d"), looks := true }, kinds := [], alts := [], laidByText := true, laidKinds := [.data, .data, .data], laidTests := true, laidLooks := .later }
def ConfigTextsCardSaid : Prop := Claim7.holds Tryd.pinned (.plain (OpenSpec.ofChange configTextsSpec)) configTextsCard

/-- THE TIED CARD OF 'volumegrouplaw07.ConfigBack'. -/
def configBackCard : Claim7 := { stood := { row := configBackRow, standIns := [], harness := (true, "25fd85897295e08d910c9456116f4c03c2c07dfb4890808e43f1086cbc83639d"), looks := true }, kinds := [], alts := [], laidByText := true, laidKinds := [.data, .data, .data], laidTests := true, laidLooks := .later }
def ConfigBackCardSaid : Prop := Claim7.holds Tryd.pinned (.plain (OpenSpec.ofChange configBackSpec)) configBackCard

/-- THE TIED CARD OF 'volumegrouplaw07.ConfigLimits'. -/
def configLimitsCard : Claim7 := { stood := { row := configLimitsRow, standIns := [], harness := (true, "25fd85897295e08d910c9456116f4c03c2c07dfb4890808e43f1086cbc83639d"), looks := true }, kinds := [], alts := [], laidByText := true, laidKinds := [.data, .data, .data], laidTests := true, laidLooks := .later }
def ConfigLimitsCardSaid : Prop := Claim7.holds Tryd.pinned (.plain (OpenSpec.ofChange configLimitsSpec)) configLimitsCard

/-- THE TIED CARD OF 'volumegrouplaw07.ConfigWrites'. -/
def configWritesCard : Claim7 := { stood := { row := configWritesRow, standIns := [], harness := (true, "25fd85897295e08d910c9456116f4c03c2c07dfb4890808e43f1086cbc83639d"), looks := true }, kinds := [], alts := [], laidByText := true, laidKinds := [.data, .data, .data], laidTests := true, laidLooks := .later }
def ConfigWritesCardSaid : Prop := Claim7.holds Tryd.pinned (.plain (OpenSpec.ofChange configWritesSpec)) configWritesCard

/-- THE TIED CARD OF 'volumegrouplaw07.ConfigCanonical'. -/
def configCanonicalCard : Claim7 := { stood := { row := configCanonicalRow, standIns := [], harness := (true, "25fd85897295e08d910c9456116f4c03c2c07dfb4890808e43f1086cbc83639d"), looks := true }, kinds := [], alts := [], laidByText := true, laidKinds := [.data, .data, .data], laidTests := true, laidLooks := .later }
def ConfigCanonicalCardSaid : Prop := Claim7.holds Tryd.pinned (.plain (OpenSpec.ofChange configCanonicalSpec)) configCanonicalCard

/-- THE TIED CARD OF 'volumegrouplaw07.ConfigFinds'. -/
def configFindsCard : Claim7 := { stood := { row := configFindsRow, standIns := [], harness := (true, "25fd85897295e08d910c9456116f4c03c2c07dfb4890808e43f1086cbc83639d"), looks := true }, kinds := [], alts := [], laidByText := true, laidKinds := [.data, .data, .data], laidTests := true, laidLooks := .later }
def ConfigFindsCardSaid : Prop := Claim7.holds Tryd.pinned (.plain (OpenSpec.ofChange configFindsSpec)) configFindsCard

/-- THE TIED CARD OF 'volumegrouplaw07.ConfigAny'. -/
def configAnyCard : Claim7 := { stood := { row := configAnyRow, standIns := [], harness := (true, "25fd85897295e08d910c9456116f4c03c2c07dfb4890808e43f1086cbc83639d"), looks := true }, kinds := [], alts := [], laidByText := true, laidKinds := [.data, .data, .data], laidTests := true, laidLooks := .later }
def ConfigAnyCardSaid : Prop := Claim7.holds Tryd.pinned (.plain (OpenSpec.ofChange configAnySpec)) configAnyCard

/-- THE SECOND FORM's CARD OF 'volumegrouplaw07.ConfigRaw'. -/
def configRawUptoCard : Claim7 := { stood := { row := configRawUptoRow, standIns := [], harness := (true, "25fd85897295e08d910c9456116f4c03c2c07dfb4890808e43f1086cbc83639d"), looks := true }, kinds := [], alts := [], laidByText := true, laidKinds := [.data, .data, .data], laidTests := true, laidLooks := .later }
def ConfigRawUptoCardSaid : Prop := Claim7.holds Tryd.pinned (.plain (OpenSpec.upto configRawSpec)) configRawUptoCard

/-- THE SECOND FORM's CARD OF 'volumegrouplaw07.ConfigTexts'. -/
def configTextsUptoCard : Claim7 := { stood := { row := configTextsUptoRow, standIns := [], harness := (true, "25fd85897295e08d910c9456116f4c03c2c07dfb4890808e43f1086cbc83639d"), looks := true }, kinds := [], alts := [], laidByText := true, laidKinds := [.data, .data, .data], laidTests := true, laidLooks := .later }
def ConfigTextsUptoCardSaid : Prop := Claim7.holds Tryd.pinned (.plain (OpenSpec.upto configTextsSpec)) configTextsUptoCard

/-- THE SECOND FORM's CARD OF 'volumegrouplaw07.ConfigBack'. -/
def configBackUptoCard : Claim7 := { stood := { row := configBackUptoRow, standIns := [], harness := (true, "25fd85897295e08d910c9456116f4c03c2c07dfb4890808e43f1086cbc83639d"), looks := true }, kinds := [], alts := [], laidByText := true, laidKinds := [.data, .data, .data], laidTests := true, laidLooks := .later }
def ConfigBackUptoCardSaid : Prop := Claim7.holds Tryd.pinned (.plain (OpenSpec.upto configBackSpec)) configBackUptoCard

/-- THE SECOND FORM's CARD OF 'volumegrouplaw07.ConfigLimits'. -/
def configLimitsUptoCard : Claim7 := { stood := { row := configLimitsUptoRow, standIns := [], harness := (true, "25fd85897295e08d910c9456116f4c03c2c07dfb4890808e43f1086cbc83639d"), looks := true }, kinds := [], alts := [], laidByText := true, laidKinds := [.data, .data, .data], laidTests := true, laidLooks := .later }
def ConfigLimitsUptoCardSaid : Prop := Claim7.holds Tryd.pinned (.plain (OpenSpec.upto configLimitsSpec)) configLimitsUptoCard

/-- THE SECOND FORM's CARD OF 'volumegrouplaw07.ConfigWrites'. -/
def configWritesUptoCard : Claim7 := { stood := { row := configWritesUptoRow, standIns := [], harness := (true, "25fd85897295e08d910c9456116f4c03c2c07dfb4890808e43f1086cbc83639d"), looks := true }, kinds := [], alts := [], laidByText := true, laidKinds := [.data, .data, .data], laidTests := true, laidLooks := .later }
def ConfigWritesUptoCardSaid : Prop := Claim7.holds Tryd.pinned (.plain (OpenSpec.upto configWritesSpec)) configWritesUptoCard

/-- THE SECOND FORM's CARD OF 'volumegrouplaw07.ConfigCanonical'. -/
def configCanonicalUptoCard : Claim7 := { stood := { row := configCanonicalUptoRow, standIns := [], harness := (true, "25fd85897295e08d910c9456116f4c03c2c07dfb4890808e43f1086cbc83639d"), looks := true }, kinds := [], alts := [], laidByText := true, laidKinds := [.data, .data, .data], laidTests := true, laidLooks := .later }
def ConfigCanonicalUptoCardSaid : Prop := Claim7.holds Tryd.pinned (.plain (OpenSpec.upto configCanonicalSpec)) configCanonicalUptoCard

/-- THE SECOND FORM's CARD OF 'volumegrouplaw07.ConfigFinds'. -/
def configFindsUptoCard : Claim7 := { stood := { row := configFindsUptoRow, standIns := [], harness := (true, "25fd85897295e08d910c9456116f4c03c2c07dfb4890808e43f1086cbc83639d"), looks := true }, kinds := [], alts := [], laidByText := true, laidKinds := [.data, .data, .data], laidTests := true, laidLooks := .later }
def ConfigFindsUptoCardSaid : Prop := Claim7.holds Tryd.pinned (.plain (OpenSpec.upto configFindsSpec)) configFindsUptoCard

/-- THE SECOND FORM's CARD OF 'volumegrouplaw07.ConfigAny'. -/
def configAnyUptoCard : Claim7 := { stood := { row := configAnyUptoRow, standIns := [], harness := (true, "25fd85897295e08d910c9456116f4c03c2c07dfb4890808e43f1086cbc83639d"), looks := true }, kinds := [], alts := [], laidByText := true, laidKinds := [.data, .data, .data], laidTests := true, laidLooks := .later }
def ConfigAnyUptoCardSaid : Prop := Claim7.holds Tryd.pinned (.plain (OpenSpec.upto configAnySpec)) configAnyUptoCard
end Rows
end Go.Proofs.YtfmdbmalmeimbaaDoor
