/-
  NARROWER THAN 'FOR EVERY INPUT', by the rows' own cells (each row's printed sentence says how): NamesApart: laid · NamesBack: laid · NamesRaw: laid · NamesBuilt: laid · NamesIdentities: laid.
  DERIVED. THE GIVEN ROWS OF THIS SEAT. 5 by the template 'for every input the law returns true; each argument reads behind the call as it read before'; 0 by the template 'total and deterministic' (their statements: YtnodlkjajgeepaaDoorTotals.lean).
  GIVEN WITH THE SEED: the statements are not yours to turn. If you find one false, say at which input.
  Laid BY PROGRAM, IN A SANDBOX (cutbox-rows.mjs): the forced cells as the released guide's own fill.sh prints them over the translation d4db51006ecde99a… (all of the seat's roots in one cut). By AI agents, Wed Nov 11 2026. No macro, syntax, notation, axiom, sorry.
-/
import Derived.Test.YtnodlkjajgeepaaDoorChecked
import GoSem.Claim
import GoSem.ClaimJoined
import GoSem.ClaimMapViews
import Derived.JoinedTies
import Derived.KernelRfl
namespace Go.Proofs.YtnodlkjajgeepaaDoor
/- THE CELL 'sum', in the pinned program and in every row, IS THE sha256 OF THE DUMP (.gsa) THAT YtnodlkjajgeepaaDoorProg.lean LOADS. Nothing in Lean hashes anything: it is a label: what it is worth is what the hold of that sum in a sandbox is worth. -/
noncomputable def Tryd.pinned : Pinned := { name := "ytnodlkjajgeepaadoor", sum := "d4db51006ecde99a2287c1c753dac04b9656a72bea82f31e55e01602be8e88ba", checked := Tryd.checked }
namespace Rows
def none {H : Type} : Left H := { results := [], args := [] }

/- WHAT THE LISTED PACKAGE-LEVEL VARIABLES READ AS WHEN THE CALL BEGINS. Each datum BY PROGRAM (the guide's laid-datum.mjs) off the statement by which the dump's own 'gosem.cut.vars' lays the variable. In a bare row this is a premise. The card (YtnodlkjajgeepaaDoorCards.lean) ties it to the program's text. -/
def laid_volumegroup_names_suffixes {H : Type} : DataW H := .agg [.lit (.string []), .lit (.string [95, 108, 111, 103]), .lit (.string [95, 100, 97, 116, 97]), .lit (.string [95, 109, 101, 116, 97]), .lit (.string [95, 115, 112, 97, 114, 101])]

/-- 'volumegrouplaw08.NamesApart': WHATEVER THE INPUT: true; the input reads as it did. -/
def namesApartSpec : ChangeSpec := { name := "namesApart", fn := fun _ => fun
  | [d] => { results := [.lit (.bool true)], args := [d] }
  | _ => none }
def namesApartRow : OpenClaim := { program := "ytnodlkjajgeepaadoor", sum := "d4db51006ecde99a2287c1c753dac04b9656a72bea82f31e55e01602be8e88ba", func := "volumegroup/volumegrouplaw08.NamesApart", spec := "namesApart", unfollowed := true, recurses := true, named := ["volumegroup/names.suffixes"], apart := false, laid := [("volumegroup/names.suffixes", laid_volumegroup_names_suffixes)] }
def NamesApartSaid : Prop := namesApartRow.holds Tryd.pinned (OpenSpec.ofChange namesApartSpec)

/-- ITS FALSE NEIGHBOUR: 'it returns false'. Refute it at one input. -/
def namesApartWrong : ChangeSpec := { name := "namesApart", fn := fun _ => fun
  | [d] => { results := [.lit (.bool false)], args := [d] }
  | _ => none }
def NamesApartWrongFalsely : Prop := namesApartRow.holds Tryd.pinned (OpenSpec.ofChange namesApartWrong)

/-- 'volumegrouplaw08.NamesBack': WHATEVER THE INPUT: true; the input reads as it did. -/
def namesBackSpec : ChangeSpec := { name := "namesBack", fn := fun _ => fun
  | [d] => { results := [.lit (.bool true)], args := [d] }
  | _ => none }
def namesBackRow : OpenClaim := { program := "ytnodlkjajgeepaadoor", sum := "d4db51006ecde99a2287c1c753dac04b9656a72bea82f31e55e01602be8e88ba", func := "volumegroup/volumegrouplaw08.NamesBack", spec := "namesBack", unfollowed := true, recurses := true, named := ["volumegroup/names.suffixes"], apart := false, laid := [("volumegroup/names.suffixes", laid_volumegroup_names_suffixes)] }
def NamesBackSaid : Prop := namesBackRow.holds Tryd.pinned (OpenSpec.ofChange namesBackSpec)

/-- ITS FALSE NEIGHBOUR: 'it returns false'. Refute it at one input. -/
def namesBackWrong : ChangeSpec := { name := "namesBack", fn := fun _ => fun
  | [d] => { results := [.lit (.bool false)], args := [d] }
  | _ => none }
def NamesBackWrongFalsely : Prop := namesBackRow.holds Tryd.pinned (OpenSpec.ofChange namesBackWrong)

/-- 'volumegrouplaw08.NamesRaw': WHATEVER THE INPUT: true; the input reads as it did. -/
def namesRawSpec : ChangeSpec := { name := "namesRaw", fn := fun _ => fun
  | [d1, d2] => { results := [.lit (.bool true)], args := [d1, d2] }
  | _ => none }
def namesRawRow : OpenClaim := { program := "ytnodlkjajgeepaadoor", sum := "d4db51006ecde99a2287c1c753dac04b9656a72bea82f31e55e01602be8e88ba", func := "volumegroup/volumegrouplaw08.NamesRaw", spec := "namesRaw", inPlace := ["internal/bytealg.IndexByteString"], unfollowed := true, recurses := true, named := ["volumegroup/names.suffixes"], apart := false, laid := [("volumegroup/names.suffixes", laid_volumegroup_names_suffixes)] }
def NamesRawSaid : Prop := namesRawRow.holds Tryd.pinned (OpenSpec.ofChange namesRawSpec)

/-- ITS FALSE NEIGHBOUR: 'it returns false'. Refute it at one input. -/
def namesRawWrong : ChangeSpec := { name := "namesRaw", fn := fun _ => fun
  | [d1, d2] => { results := [.lit (.bool false)], args := [d1, d2] }
  | _ => none }
def NamesRawWrongFalsely : Prop := namesRawRow.holds Tryd.pinned (OpenSpec.ofChange namesRawWrong)

/-- 'volumegrouplaw08.NamesBuilt': WHATEVER THE INPUT: true; the input reads as it did. -/
def namesBuiltSpec : ChangeSpec := { name := "namesBuilt", fn := fun _ => fun
  | [d] => { results := [.lit (.bool true)], args := [d] }
  | _ => none }
def namesBuiltRow : OpenClaim := { program := "ytnodlkjajgeepaadoor", sum := "d4db51006ecde99a2287c1c753dac04b9656a72bea82f31e55e01602be8e88ba", func := "volumegroup/volumegrouplaw08.NamesBuilt", spec := "namesBuilt", inPlace := ["internal/bytealg.IndexByteString"], unfollowed := true, recurses := true, named := ["volumegroup/names.suffixes"], apart := false, laid := [("volumegroup/names.suffixes", laid_volumegroup_names_suffixes)] }
def NamesBuiltSaid : Prop := namesBuiltRow.holds Tryd.pinned (OpenSpec.ofChange namesBuiltSpec)

/-- ITS FALSE NEIGHBOUR: 'it returns false'. Refute it at one input. -/
def namesBuiltWrong : ChangeSpec := { name := "namesBuilt", fn := fun _ => fun
  | [d] => { results := [.lit (.bool false)], args := [d] }
  | _ => none }
def NamesBuiltWrongFalsely : Prop := namesBuiltRow.holds Tryd.pinned (OpenSpec.ofChange namesBuiltWrong)

/-- 'volumegrouplaw08.NamesIdentities': WHATEVER THE INPUT: true; the input reads as it did. -/
def namesIdentitiesSpec : ChangeSpec := { name := "namesIdentities", fn := fun _ => fun
  | [d1, d2, d3, d4] => { results := [.lit (.bool true)], args := [d1, d2, d3, d4] }
  | _ => none }
def namesIdentitiesRow : OpenClaim := { program := "ytnodlkjajgeepaadoor", sum := "d4db51006ecde99a2287c1c753dac04b9656a72bea82f31e55e01602be8e88ba", func := "volumegroup/volumegrouplaw08.NamesIdentities", spec := "namesIdentities", inPlace := ["internal/bytealg.IndexByteString"], unfollowed := true, recurses := true, named := ["volumegroup/names.suffixes"], apart := false, laid := [("volumegroup/names.suffixes", laid_volumegroup_names_suffixes)] }
def NamesIdentitiesSaid : Prop := namesIdentitiesRow.holds Tryd.pinned (OpenSpec.ofChange namesIdentitiesSpec)

/-- ITS FALSE NEIGHBOUR: 'it returns false'. Refute it at one input. -/
def namesIdentitiesWrong : ChangeSpec := { name := "namesIdentities", fn := fun _ => fun
  | [d1, d2, d3, d4] => { results := [.lit (.bool false)], args := [d1, d2, d3, d4] }
  | _ => none }
def NamesIdentitiesWrongFalsely : Prop := namesIdentitiesRow.holds Tryd.pinned (OpenSpec.ofChange namesIdentitiesWrong)

/- THE SECOND FORM. 'bulk': how many values and letters a reading holds, each counted each time it is reached (what is shared counts as often as it is met; a slice's spare places count too). A statement '..UptoSaid' is the law's where the arguments, and the package variables that the reading takes, are together of bulk at most 1048576: NARROWER than '..Said'. Prove '..Said' where nothing that the law and all that it calls make is longer than what came in: it says more and counts as full. Else prove '..UptoSaid'. A law counts once. -/
mutual
def uptoBulk {H : Type} : DataW H → Nat
  | .lit (.string bytes) => bytes.length + 1
  | .lit _ => 1
  | .nil => 1
  | .ptr d => uptoBulk d + 1
  | .slice elems spare => uptoBulkAll elems + uptoBulkAll spare + 1
  | .agg parts => uptoBulkAll parts + 1
  | .iface _ d => uptoBulk d + 1
  | .map entries => uptoBulkEntries entries + 1
  | .held _ => 1
def uptoBulkAll {H : Type} : List (DataW H) → Nat
  | [] => 0
  | d :: r => uptoBulk d + uptoBulkAll r
def uptoBulkEntries {H : Type} : List (Lit × DataW H) → Nat
  | [] => 0
  | x :: r => uptoBulkEntry x + uptoBulkEntries r
def uptoBulkEntry {H : Type} : Lit × DataW H → Nat
  | (.string bytes, d) => bytes.length + uptoBulk d + 1
  | (_, d) => uptoBulk d + 1
 end
def uptoSmall : (H : Type) → List (DataW H) → Bool := fun _ ds => decide (uptoBulkAll ds ≤ 1048576)
def OpenSpec.upto (s : _root_.Go.ChangeSpec) : _root_.Go.OpenSpec := { _root_.Go.OpenSpec.ofChange s with cond := some uptoSmall }

/-- 'volumegrouplaw08.NamesApart', WHERE WHAT IT READS IS OF BULK AT MOST 1048576: true; the input reads as it did. -/
def namesApartUptoRow : OpenClaim := { program := "ytnodlkjajgeepaadoor", sum := "d4db51006ecde99a2287c1c753dac04b9656a72bea82f31e55e01602be8e88ba", func := "volumegroup/volumegrouplaw08.NamesApart", spec := "namesApart", unfollowed := true, recurses := true, named := ["volumegroup/names.suffixes"], apart := false, laid := [("volumegroup/names.suffixes", laid_volumegroup_names_suffixes)], narrowed := true }
def NamesApartUptoSaid : Prop := namesApartUptoRow.holds Tryd.pinned (OpenSpec.upto namesApartSpec)

/-- 'volumegrouplaw08.NamesBack', WHERE WHAT IT READS IS OF BULK AT MOST 1048576: true; the input reads as it did. -/
def namesBackUptoRow : OpenClaim := { program := "ytnodlkjajgeepaadoor", sum := "d4db51006ecde99a2287c1c753dac04b9656a72bea82f31e55e01602be8e88ba", func := "volumegroup/volumegrouplaw08.NamesBack", spec := "namesBack", unfollowed := true, recurses := true, named := ["volumegroup/names.suffixes"], apart := false, laid := [("volumegroup/names.suffixes", laid_volumegroup_names_suffixes)], narrowed := true }
def NamesBackUptoSaid : Prop := namesBackUptoRow.holds Tryd.pinned (OpenSpec.upto namesBackSpec)

/-- 'volumegrouplaw08.NamesRaw', WHERE WHAT IT READS IS OF BULK AT MOST 1048576: true; the input reads as it did. -/
def namesRawUptoRow : OpenClaim := { program := "ytnodlkjajgeepaadoor", sum := "d4db51006ecde99a2287c1c753dac04b9656a72bea82f31e55e01602be8e88ba", func := "volumegroup/volumegrouplaw08.NamesRaw", spec := "namesRaw", inPlace := ["internal/bytealg.IndexByteString"], unfollowed := true, recurses := true, named := ["volumegroup/names.suffixes"], apart := false, laid := [("volumegroup/names.suffixes", laid_volumegroup_names_suffixes)], narrowed := true }
def NamesRawUptoSaid : Prop := namesRawUptoRow.holds Tryd.pinned (OpenSpec.upto namesRawSpec)

/-- 'volumegrouplaw08.NamesBuilt', WHERE WHAT IT READS IS OF BULK AT MOST 1048576: true; the input reads as it did. -/
def namesBuiltUptoRow : OpenClaim := { program := "ytnodlkjajgeepaadoor", sum := "d4db51006ecde99a2287c1c753dac04b9656a72bea82f31e55e01602be8e88ba", func := "volumegroup/volumegrouplaw08.NamesBuilt", spec := "namesBuilt", inPlace := ["internal/bytealg.IndexByteString"], unfollowed := true, recurses := true, named := ["volumegroup/names.suffixes"], apart := false, laid := [("volumegroup/names.suffixes", laid_volumegroup_names_suffixes)], narrowed := true }
def NamesBuiltUptoSaid : Prop := namesBuiltUptoRow.holds Tryd.pinned (OpenSpec.upto namesBuiltSpec)

/-- 'volumegrouplaw08.NamesIdentities', WHERE WHAT IT READS IS OF BULK AT MOST 1048576: true; the input reads as it did. -/
def namesIdentitiesUptoRow : OpenClaim := { program := "ytnodlkjajgeepaadoor", sum := "d4db51006ecde99a2287c1c753dac04b9656a72bea82f31e55e01602be8e88ba", func := "volumegroup/volumegrouplaw08.NamesIdentities", spec := "namesIdentities", inPlace := ["internal/bytealg.IndexByteString"], unfollowed := true, recurses := true, named := ["volumegroup/names.suffixes"], apart := false, laid := [("volumegroup/names.suffixes", laid_volumegroup_names_suffixes)], narrowed := true }
def NamesIdentitiesUptoSaid : Prop := namesIdentitiesUptoRow.holds Tryd.pinned (OpenSpec.upto namesIdentitiesSpec)

end Rows
end Go.Proofs.YtnodlkjajgeepaaDoor
