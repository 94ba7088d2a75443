/-
  NARROWER THAN 'FOR EVERY INPUT', by the rows' own cells (each row's printed sentence says how): ModelSpaces: laid · ModelSame: laid · ModelBelow: laid · ModelAccepts: laid.
  DERIVED. THE GIVEN ROWS OF THIS SEAT. 4 by the template 'for every input the law returns true; each argument reads behind the call as it read before'; 0 by the template 'total and deterministic' (their statements: YtdkcfgahdcpkkaaDoorTotals.lean).
  GIVEN WITH THE SEED: the statements are not yours to turn. If you find one false, say at which input.
  Laid BY PROGRAM, IN A SANDBOX (cutbox-rows.mjs): the forced cells as the released guide's own fill.sh prints them over the translation 2e96c5ab133d05a5… (all of the seat's roots in one cut). By AI agents, Wed Nov 11 2026. No macro, syntax, notation, axiom, sorry.
-/
import Derived.Test.YtdkcfgahdcpkkaaDoorChecked
import GoSem.Claim
import GoSem.ClaimJoined
import GoSem.ClaimMapViews
import Derived.JoinedTies
import Derived.KernelRfl
namespace Go.Proofs.YtdkcfgahdcpkkaaDoor
/- THE CELL 'sum', in the pinned program and in every row, IS THE sha256 OF THE DUMP (.gsa) THAT YtdkcfgahdcpkkaaDoorProg.lean LOADS. Nothing in Lean hashes anything: it is a label: what it is worth is what the hold of that sum in a sandbox is worth. -/
noncomputable def Tryd.pinned : Pinned := { name := "ytdkcfgahdcpkkaadoor", sum := "2e96c5ab133d05a53d8a0b7fe61baea768f83ccc3642379b26988c79fbb0d915", checked := Tryd.checked }
namespace Rows
def none {H : Type} : Left H := { results := [], args := [] }

/- WHAT THE LISTED PACKAGE-LEVEL VARIABLES READ AS WHEN THE CALL BEGINS. Each datum BY PROGRAM (the guide's laid-datum.mjs) off the statement by which the dump's own 'gosem.cut.vars' lays the variable. In a bare row this is a premise. The card (YtdkcfgahdcpkkaaDoorCards.lean) ties it to the program's text. -/
def laid_volumegroup_names_suffixes {H : Type} : DataW H := .agg [.lit (.string []), .lit (.string [95, 108, 111, 103]), .lit (.string [95, 100, 97, 116, 97]), .lit (.string [95, 109, 101, 116, 97]), .lit (.string [95, 115, 112, 97, 114, 101])]

/-- 'volumegrouplaw09.ModelSpaces': WHATEVER THE INPUT: true; the input reads as it did. -/
def modelSpacesSpec : ChangeSpec := { name := "modelSpaces", fn := fun _ => fun
  | [d] => { results := [.lit (.bool true)], args := [d] }
  | _ => none }
def modelSpacesRow : OpenClaim := { program := "ytdkcfgahdcpkkaadoor", sum := "2e96c5ab133d05a53d8a0b7fe61baea768f83ccc3642379b26988c79fbb0d915", func := "volumegroup/volumegrouplaw09.ModelSpaces", spec := "modelSpaces", unfollowed := true, recurses := true, named := ["volumegroup/names.suffixes"], plainKeys := false, apart := false, laid := [("volumegroup/names.suffixes", laid_volumegroup_names_suffixes)] }
def ModelSpacesSaid : Prop := modelSpacesRow.holds Tryd.pinned (OpenSpec.ofChange modelSpacesSpec)

/-- ITS FALSE NEIGHBOUR: 'it returns false'. Refute it at one input. -/
def modelSpacesWrong : ChangeSpec := { name := "modelSpaces", fn := fun _ => fun
  | [d] => { results := [.lit (.bool false)], args := [d] }
  | _ => none }
def ModelSpacesWrongFalsely : Prop := modelSpacesRow.holds Tryd.pinned (OpenSpec.ofChange modelSpacesWrong)

/-- 'volumegrouplaw09.ModelSame': WHATEVER THE INPUT: true; the input reads as it did. -/
def modelSameSpec : ChangeSpec := { name := "modelSame", fn := fun _ => fun
  | [d] => { results := [.lit (.bool true)], args := [d] }
  | _ => none }
def modelSameRow : OpenClaim := { program := "ytdkcfgahdcpkkaadoor", sum := "2e96c5ab133d05a53d8a0b7fe61baea768f83ccc3642379b26988c79fbb0d915", func := "volumegroup/volumegrouplaw09.ModelSame", spec := "modelSame", unfollowed := true, recurses := true, named := ["volumegroup/names.suffixes"], plainKeys := false, apart := false, laid := [("volumegroup/names.suffixes", laid_volumegroup_names_suffixes)] }
def ModelSameSaid : Prop := modelSameRow.holds Tryd.pinned (OpenSpec.ofChange modelSameSpec)

/-- ITS FALSE NEIGHBOUR: 'it returns false'. Refute it at one input. -/
def modelSameWrong : ChangeSpec := { name := "modelSame", fn := fun _ => fun
  | [d] => { results := [.lit (.bool false)], args := [d] }
  | _ => none }
def ModelSameWrongFalsely : Prop := modelSameRow.holds Tryd.pinned (OpenSpec.ofChange modelSameWrong)

/-- 'volumegrouplaw09.ModelBelow': WHATEVER THE INPUT: true; the input reads as it did. -/
def modelBelowSpec : ChangeSpec := { name := "modelBelow", fn := fun _ => fun
  | [d] => { results := [.lit (.bool true)], args := [d] }
  | _ => none }
def modelBelowRow : OpenClaim := { program := "ytdkcfgahdcpkkaadoor", sum := "2e96c5ab133d05a53d8a0b7fe61baea768f83ccc3642379b26988c79fbb0d915", func := "volumegroup/volumegrouplaw09.ModelBelow", spec := "modelBelow", unfollowed := true, recurses := true, named := ["volumegroup/names.suffixes"], plainKeys := false, apart := false, laid := [("volumegroup/names.suffixes", laid_volumegroup_names_suffixes)] }
def ModelBelowSaid : Prop := modelBelowRow.holds Tryd.pinned (OpenSpec.ofChange modelBelowSpec)

/-- ITS FALSE NEIGHBOUR: 'it returns false'. Refute it at one input. -/
def modelBelowWrong : ChangeSpec := { name := "modelBelow", fn := fun _ => fun
  | [d] => { results := [.lit (.bool false)], args := [d] }
  | _ => none }
def ModelBelowWrongFalsely : Prop := modelBelowRow.holds Tryd.pinned (OpenSpec.ofChange modelBelowWrong)

/-- 'volumegrouplaw09.ModelAccepts': WHATEVER THE INPUT: true; the input reads as it did. -/
def modelAcceptsSpec : ChangeSpec := { name := "modelAccepts", fn := fun _ => fun
  | [d] => { results := [.lit (.bool true)], args := [d] }
  | _ => none }
def modelAcceptsRow : OpenClaim := { program := "ytdkcfgahdcpkkaadoor", sum := "2e96c5ab133d05a53d8a0b7fe61baea768f83ccc3642379b26988c79fbb0d915", func := "volumegroup/volumegrouplaw09.ModelAccepts", spec := "modelAccepts", unfollowed := true, recurses := true, named := ["volumegroup/names.suffixes"], plainKeys := false, apart := false, laid := [("volumegroup/names.suffixes", laid_volumegroup_names_suffixes)] }
def ModelAcceptsSaid : Prop := modelAcceptsRow.holds Tryd.pinned (OpenSpec.ofChange modelAcceptsSpec)

/-- ITS FALSE NEIGHBOUR: 'it returns false'. Refute it at one input. -/
def modelAcceptsWrong : ChangeSpec := { name := "modelAccepts", fn := fun _ => fun
  | [d] => { results := [.lit (.bool false)], args := [d] }
  | _ => none }
def ModelAcceptsWrongFalsely : Prop := modelAcceptsRow.holds Tryd.pinned (OpenSpec.ofChange modelAcceptsWrong)

/- THE SECOND FORM. 'bulk': how many values and letters a reading holds, each counted each time it is reached (what is shared counts as often as it is met; a slice's spare places count too). A statement '..UptoSaid' is the law's where the arguments, and the package variables that the reading takes, are together of bulk at most 1048576: NARROWER than '..Said'. Prove '..Said' where nothing that the law and all that it calls make is longer than what came in: it says more and counts as full. Else prove '..UptoSaid'. A law counts once. -/
mutual
def uptoBulk {H : Type} : DataW H → Nat
  | .lit (.string bytes) => bytes.length + 1
  | .lit _ => 1
  | .nil => 1
  | .ptr d => uptoBulk d + 1
  | .slice elems spare => uptoBulkAll elems + uptoBulkAll spare + 1
  | .agg parts => uptoBulkAll parts + 1
  | .iface _ d => uptoBulk d + 1
  | .map entries => uptoBulkEntries entries + 1
  | .held _ => 1
def uptoBulkAll {H : Type} : List (DataW H) → Nat
  | [] => 0
  | d :: r => uptoBulk d + uptoBulkAll r
def uptoBulkEntries {H : Type} : List (Lit × DataW H) → Nat
  | [] => 0
  | x :: r => uptoBulkEntry x + uptoBulkEntries r
def uptoBulkEntry {H : Type} : Lit × DataW H → Nat
  | (.string bytes, d) => bytes.length + uptoBulk d + 1
  | (_, d) => uptoBulk d + 1
 end
def uptoSmall : (H : Type) → List (DataW H) → Bool := fun _ ds => decide (uptoBulkAll ds ≤ 1048576)
def OpenSpec.upto (s : _root_.Go.ChangeSpec) : _root_.Go.OpenSpec := { _root_.Go.OpenSpec.ofChange s with cond := some uptoSmall }

/-- 'volumegrouplaw09.ModelSpaces', WHERE WHAT IT READS IS OF BULK AT MOST 1048576: true; the input reads as it did. -/
def modelSpacesUptoRow : OpenClaim := { program := "ytdkcfgahdcpkkaadoor", sum := "2e96c5ab133d05a53d8a0b7fe61baea768f83ccc3642379b26988c79fbb0d915", func := "volumegroup/volumegrouplaw09.ModelSpaces", spec := "modelSpaces", unfollowed := true, recurses := true, named := ["volumegroup/names.suffixes"], plainKeys := false, apart := false, laid := [("volumegroup/names.suffixes", laid_volumegroup_names_suffixes)], narrowed := true }
def ModelSpacesUptoSaid : Prop := modelSpacesUptoRow.holds Tryd.pinned (OpenSpec.upto modelSpacesSpec)

/-- 'volumegrouplaw09.ModelSame', WHERE WHAT IT READS IS OF BULK AT MOST 1048576: true; the input reads as it did. -/
def modelSameUptoRow : OpenClaim := { program := "ytdkcfgahdcpkkaadoor", sum := "2e96c5ab133d05a53d8a0b7fe61baea768f83ccc3642379b26988c79fbb0d915", func := "volumegroup/volumegrouplaw09.ModelSame", spec := "modelSame", unfollowed := true, recurses := true, named := ["volumegroup/names.suffixes"], plainKeys := false, apart := false, laid := [("volumegroup/names.suffixes", laid_volumegroup_names_suffixes)], narrowed := true }
def ModelSameUptoSaid : Prop := modelSameUptoRow.holds Tryd.pinned (OpenSpec.upto modelSameSpec)

/-- 'volumegrouplaw09.ModelBelow', WHERE WHAT IT READS IS OF BULK AT MOST 1048576: true; the input reads as it did. -/
def modelBelowUptoRow : OpenClaim := { program := "ytdkcfgahdcpkkaadoor", sum := "2e96c5ab133d05a53d8a0b7fe61baea768f83ccc3642379b26988c79fbb0d915", func := "volumegroup/volumegrouplaw09.ModelBelow", spec := "modelBelow", unfollowed := true, recurses := true, named := ["volumegroup/names.suffixes"], plainKeys := false, apart := false, laid := [("volumegroup/names.suffixes", laid_volumegroup_names_suffixes)], narrowed := true }
def ModelBelowUptoSaid : Prop := modelBelowUptoRow.holds Tryd.pinned (OpenSpec.upto modelBelowSpec)

/-- 'volumegrouplaw09.ModelAccepts', WHERE WHAT IT READS IS OF BULK AT MOST 1048576: true; the input reads as it did. -/
def modelAcceptsUptoRow : OpenClaim := { program := "ytdkcfgahdcpkkaadoor", sum := "2e96c5ab133d05a53d8a0b7fe61baea768f83ccc3642379b26988c79fbb0d915", func := "volumegroup/volumegrouplaw09.ModelAccepts", spec := "modelAccepts", unfollowed := true, recurses := true, named := ["volumegroup/names.suffixes"], plainKeys := false, apart := false, laid := [("volumegroup/names.suffixes", laid_volumegroup_names_suffixes)], narrowed := true }
def ModelAcceptsUptoSaid : Prop := modelAcceptsUptoRow.holds Tryd.pinned (OpenSpec.upto modelAcceptsSpec)

end Rows
end Go.Proofs.YtdkcfgahdcpkkaaDoor
