/-
  DERIVED. GIVEN WITH THE SEED: THE CARDS: each row of YtnodlkjajgeepaaDoorRows.lean that lists a variable, with what it lists TIED to the program's text (the seventh form; the later family's looks); each row that meets fmt, with fmt's text TOLD by the authors' own Lean function (tested against real Go, not proved from fmt's source: count such statements apart). THE CARD IS WHAT COUNTS. Prove the row's statement (the work); the ties are given (YtnodlkjajgeepaaDoorTie.lean); close each card by the builder's one call (the guide's Derived/Test/ToyasCard.lean, 'card_holds'). Laid BY PROGRAM, IN A SANDBOX (cutbox-door.mjs). By AI agents, Wed Nov 11 2026. No macro, syntax, notation, axiom, sorry.
-/
import Derived.Test.YtnodlkjajgeepaaDoorRows
import GoSem.ClaimSeven
namespace Go.Proofs.YtnodlkjajgeepaaDoor
namespace Rows

/-- THE TIED CARD OF 'volumegrouplaw08.NamesApart'. -/
def namesApartCard : Claim7 := { stood := { row := namesApartRow, standIns := [], harness := (true, "9f8f9b74cf95e4f133a2258e79689bacec7cba91e6ad613b21e30d8285d2211d"), looks := false }, kinds := [], alts := [], laidByText := true, laidKinds := [.widerDeep], laidTests := true, laidLooks := .later }
def NamesApartCardSaid : Prop := Claim7.holds Tryd.pinned (.plain (OpenSpec.ofChange namesApartSpec)) namesApartCard

/-- THE TIED CARD OF 'volumegrouplaw08.NamesBack'. -/
def namesBackCard : Claim7 := { stood := { row := namesBackRow, standIns := [], harness := (true, "9f8f9b74cf95e4f133a2258e79689bacec7cba91e6ad613b21e30d8285d2211d"), looks := false }, kinds := [], alts := [], laidByText := true, laidKinds := [.widerDeep], laidTests := true, laidLooks := .later }
def NamesBackCardSaid : Prop := Claim7.holds Tryd.pinned (.plain (OpenSpec.ofChange namesBackSpec)) namesBackCard

/-- THE TIED CARD OF 'volumegrouplaw08.NamesRaw'. -/
def namesRawCard : Claim7 := { stood := { row := namesRawRow, standIns := [], harness := (true, "9f8f9b74cf95e4f133a2258e79689bacec7cba91e6ad613b21e30d8285d2211d"), looks := false }, kinds := [], alts := [], laidByText := true, laidKinds := [.widerDeep], laidTests := true, laidLooks := .later }
def NamesRawCardSaid : Prop := Claim7.holds Tryd.pinned (.plain (OpenSpec.ofChange namesRawSpec)) namesRawCard

/-- THE TIED CARD OF 'volumegrouplaw08.NamesBuilt'. -/
def namesBuiltCard : Claim7 := { stood := { row := namesBuiltRow, standIns := [], harness := (true, "9f8f9b74cf95e4f133a2258e79689bacec7cba91e6ad613b21e30d8285d2211d"), looks := false }, kinds := [], alts := [], laidByText := true, laidKinds := [.widerDeep], laidTests := true, laidLooks := .later }
def NamesBuiltCardSaid : Prop := Claim7.holds Tryd.pinned (.plain (OpenSpec.ofChange namesBuiltSpec)) namesBuiltCard

/-- THE TIED CARD OF 'volumegrouplaw08.NamesIdentities'. -/
def namesIdentitiesCard : Claim7 := { stood := { row := namesIdentitiesRow, standIns := [], harness := (true, "9f8f9b74cf95e4f133a2258e79689bacec7cba91e6ad613b21e30d8285d2211d"), looks := false }, kinds := [], alts := [], laidByText := true, laidKinds := [.widerDeep], laidTests := true, laidLooks := .later }
def NamesIdentitiesCardSaid : Prop := Claim7.holds Tryd.pinned (.plain (OpenSpec.ofChange namesIdentitiesSpec)) namesIdentitiesCard

/-- THE SECOND FORM's CARD OF 'volumegrouplaw08.NamesApart'. -/
def namesApartUptoCard : Claim7 := { stood := { row := namesApartUptoRow, standIns := [], harness := (true, "9f8f9b74cf95e4f133a2258e79689bacec7cba91e6ad613b21e30d8285d2211d"), looks := false }, kinds := [], alts := [], laidByText := true, laidKinds := [.widerDeep], laidTests := true, laidLooks := .later }
def NamesApartUptoCardSaid : Prop := Claim7.holds Tryd.pinned (.plain (OpenSpec.upto namesApartSpec)) namesApartUptoCard

/-- THE SECOND FORM's CARD OF 'volumegrouplaw08.NamesBack'. -/
def namesBackUptoCard : Claim7 := { stood := { row := namesBackUptoRow, standIns := [], harness := (true, "9f8f9b74cf95e4f133a2258e79689bacec7cba91e6ad613b21e30d8285d2211d"), looks := false }, kinds := [], alts := [], laidByText := true, laidKinds := [.widerDeep], laidTests := true, laidLooks := .later }
def NamesBackUptoCardSaid : Prop := Claim7.holds Tryd.pinned (.plain (OpenSpec.upto namesBackSpec)) namesBackUptoCard

/-- THE SECOND FORM's CARD OF 'volumegrouplaw08.NamesRaw'. -/
def namesRawUptoCard : Claim7 := { stood := { row := namesRawUptoRow, standIns := [], harness := (true, "9f8f9b74cf95e4f133a2258e79689bacec7cba91e6ad613b21e30d8285d2211d"), looks := false }, kinds := [], alts := [], laidByText := true, laidKinds := [.widerDeep], laidTests := true, laidLooks := .later }
def NamesRawUptoCardSaid : Prop := Claim7.holds Tryd.pinned (.plain (OpenSpec.upto namesRawSpec)) namesRawUptoCard

/-- THE SECOND FORM's CARD OF 'volumegrouplaw08.NamesBuilt'. -/
def namesBuiltUptoCard : Claim7 := { stood := { row := namesBuiltUptoRow, standIns := [], harness := (true, "9f8f9b74cf95e4f133a2258e79689bacec7cba91e6ad613b21e30d8285d2211d"), looks := false }, kinds := [], alts := [], laidByText := true, laidKinds := [.widerDeep], laidTests := true, laidLooks := .later }
def NamesBuiltUptoCardSaid : Prop := Claim7.holds Tryd.pinned (.plain (OpenSpec.upto namesBuiltSpec)) namesBuiltUptoCard

/-- THE SECOND FORM's CARD OF 'volumegrouplaw08.NamesIdentities'. -/
def namesIdentitiesUptoCard : Claim7 := { stood := { row := namesIdentitiesUptoRow, standIns := [], harness := (true, "9f8f9b74cf95e4f133a2258e79689bacec7cba91e6ad613b21e30d8285d2211d"), looks := false }, kinds := [], alts := [], laidByText := true, laidKinds := [.widerDeep], laidTests := true, laidLooks := .later }
def NamesIdentitiesUptoCardSaid : Prop := Claim7.holds Tryd.pinned (.plain (OpenSpec.upto namesIdentitiesSpec)) namesIdentitiesUptoCard
end Rows
end Go.Proofs.YtnodlkjajgeepaaDoor
