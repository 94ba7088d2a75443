/-
  No cell of these rows narrows 'for every input' (looked for: loops, veiled, ifaces, maps, wideKeys, modest, calm, conditions, laid).
  DERIVED. THE GIVEN ROWS OF THIS SEAT. 7 by the template 'for every input the law returns true; each argument reads behind the call as it read before'; 0 by the template 'total and deterministic' (their statements: YtialblddcgdlkaaTotals.lean).
  GIVEN WITH THE SEED: the statements are not yours to turn. If you find one false, say at which input.
  Laid BY PROGRAM, IN A SANDBOX (cutbox-rows.mjs): the forced cells as the released guide's own fill.sh prints them over the translation ca69aba587e5e189… (all of the seat's roots in one cut). By AI agents, Wed Nov 11 2026. No macro, syntax, notation, axiom, sorry.
-/
import Derived.Test.YtialblddcgdlkaaChecked
import GoSem.Claim
import GoSem.ClaimJoined
import GoSem.ClaimMapViews
import Derived.JoinedTies
import Derived.KernelRfl
namespace Go.Proofs.Ytialblddcgdlkaa
/- THE CELL 'sum', in the pinned program and in every row, IS THE sha256 OF THE DUMP (.gsa) THAT YtialblddcgdlkaaProg.lean LOADS. Nothing in Lean hashes anything: it is a label: what it is worth is what the hold of that sum in a sandbox is worth. -/
noncomputable def Try.pinned : Pinned := { name := "ytialblddcgdlkaa", sum := "ca69aba587e5e189f9f4db298fdb17a088237c45dbf0be744d92f9cf6f08881e", checked := Try.checked }
namespace Rows
def none {H : Type} : Left H := { results := [], args := [] }

/-- 'volumegrouplaw01.ChecksumValues': WHATEVER THE INPUT: true; the input reads as it did. -/
def checksumValuesSpec : ChangeSpec := { name := "checksumValues", fn := fun _ => fun
  | [d1, d2, d3] => { results := [.lit (.bool true)], args := [d1, d2, d3] }
  | _ => none }
def checksumValuesRow : OpenClaim := { program := "ytialblddcgdlkaa", sum := "ca69aba587e5e189f9f4db298fdb17a088237c45dbf0be744d92f9cf6f08881e", func := "volumegroup/volumegrouplaw01.ChecksumValues", spec := "checksumValues", unfollowed := true, recurses := true, apart := false }
def ChecksumValuesSaid : Prop := checksumValuesRow.holds Try.pinned (OpenSpec.ofChange checksumValuesSpec)

/-- ITS FALSE NEIGHBOUR: 'it returns false'. Refute it at one input. -/
def checksumValuesWrong : ChangeSpec := { name := "checksumValues", fn := fun _ => fun
  | [d1, d2, d3] => { results := [.lit (.bool false)], args := [d1, d2, d3] }
  | _ => none }
def ChecksumValuesWrongFalsely : Prop := checksumValuesRow.holds Try.pinned (OpenSpec.ofChange checksumValuesWrong)

/-- 'volumegrouplaw01.ChecksumExtends': WHATEVER THE INPUT: true; the input reads as it did. -/
def checksumExtendsSpec : ChangeSpec := { name := "checksumExtends", fn := fun _ => fun
  | [d1, d2] => { results := [.lit (.bool true)], args := [d1, d2] }
  | _ => none }
def checksumExtendsRow : OpenClaim := { program := "ytialblddcgdlkaa", sum := "ca69aba587e5e189f9f4db298fdb17a088237c45dbf0be744d92f9cf6f08881e", func := "volumegroup/volumegrouplaw01.ChecksumExtends", spec := "checksumExtends", unfollowed := true, recurses := true, apart := false }
def ChecksumExtendsSaid : Prop := checksumExtendsRow.holds Try.pinned (OpenSpec.ofChange checksumExtendsSpec)

/-- ITS FALSE NEIGHBOUR: 'it returns false'. Refute it at one input. -/
def checksumExtendsWrong : ChangeSpec := { name := "checksumExtends", fn := fun _ => fun
  | [d1, d2] => { results := [.lit (.bool false)], args := [d1, d2] }
  | _ => none }
def ChecksumExtendsWrongFalsely : Prop := checksumExtendsRow.holds Try.pinned (OpenSpec.ofChange checksumExtendsWrong)

/-- 'volumegrouplaw01.ChecksumWords': WHATEVER THE INPUT: true; the input reads as it did. -/
def checksumWordsSpec : ChangeSpec := { name := "checksumWords", fn := fun _ => fun
  | [d] => { results := [.lit (.bool true)], args := [d] }
  | _ => none }
def checksumWordsRow : OpenClaim := { program := "ytialblddcgdlkaa", sum := "ca69aba587e5e189f9f4db298fdb17a088237c45dbf0be744d92f9cf6f08881e", func := "volumegroup/volumegrouplaw01.ChecksumWords", spec := "checksumWords", unfollowed := true, recurses := true, apart := false }
def ChecksumWordsSaid : Prop := checksumWordsRow.holds Try.pinned (OpenSpec.ofChange checksumWordsSpec)

/-- ITS FALSE NEIGHBOUR: 'it returns false'. Refute it at one input. -/
def checksumWordsWrong : ChangeSpec := { name := "checksumWords", fn := fun _ => fun
  | [d] => { results := [.lit (.bool false)], args := [d] }
  | _ => none }
def ChecksumWordsWrongFalsely : Prop := checksumWordsRow.holds Try.pinned (OpenSpec.ofChange checksumWordsWrong)

/-- 'volumegrouplaw01.ChecksumBursts': WHATEVER THE INPUT: true; the input reads as it did. -/
def checksumBurstsSpec : ChangeSpec := { name := "checksumBursts", fn := fun _ => fun
  | [d1, d2, d3] => { results := [.lit (.bool true)], args := [d1, d2, d3] }
  | _ => none }
def checksumBurstsRow : OpenClaim := { program := "ytialblddcgdlkaa", sum := "ca69aba587e5e189f9f4db298fdb17a088237c45dbf0be744d92f9cf6f08881e", func := "volumegroup/volumegrouplaw01.ChecksumBursts", spec := "checksumBursts", unfollowed := true, recurses := true, apart := false }
def ChecksumBurstsSaid : Prop := checksumBurstsRow.holds Try.pinned (OpenSpec.ofChange checksumBurstsSpec)

/-- ITS FALSE NEIGHBOUR: 'it returns false'. Refute it at one input. -/
def checksumBurstsWrong : ChangeSpec := { name := "checksumBursts", fn := fun _ => fun
  | [d1, d2, d3] => { results := [.lit (.bool false)], args := [d1, d2, d3] }
  | _ => none }
def ChecksumBurstsWrongFalsely : Prop := checksumBurstsRow.holds Try.pinned (OpenSpec.ofChange checksumBurstsWrong)

/-- 'volumegrouplaw01.ChecksumLinear': WHATEVER THE INPUT: true; the input reads as it did. -/
def checksumLinearSpec : ChangeSpec := { name := "checksumLinear", fn := fun _ => fun
  | [d] => { results := [.lit (.bool true)], args := [d] }
  | _ => none }
def checksumLinearRow : OpenClaim := { program := "ytialblddcgdlkaa", sum := "ca69aba587e5e189f9f4db298fdb17a088237c45dbf0be744d92f9cf6f08881e", func := "volumegroup/volumegrouplaw01.ChecksumLinear", spec := "checksumLinear", unfollowed := true, recurses := true, apart := false }
def ChecksumLinearSaid : Prop := checksumLinearRow.holds Try.pinned (OpenSpec.ofChange checksumLinearSpec)

/-- ITS FALSE NEIGHBOUR: 'it returns false'. Refute it at one input. -/
def checksumLinearWrong : ChangeSpec := { name := "checksumLinear", fn := fun _ => fun
  | [d] => { results := [.lit (.bool false)], args := [d] }
  | _ => none }
def ChecksumLinearWrongFalsely : Prop := checksumLinearRow.holds Try.pinned (OpenSpec.ofChange checksumLinearWrong)

/-- 'volumegrouplaw01.ChecksumAssociates': WHATEVER THE INPUT: true; the input reads as it did. -/
def checksumAssociatesSpec : ChangeSpec := { name := "checksumAssociates", fn := fun _ => fun
  | [d1, d2, d3, d4, d5] => { results := [.lit (.bool true)], args := [d1, d2, d3, d4, d5] }
  | _ => none }
def checksumAssociatesRow : OpenClaim := { program := "ytialblddcgdlkaa", sum := "ca69aba587e5e189f9f4db298fdb17a088237c45dbf0be744d92f9cf6f08881e", func := "volumegroup/volumegrouplaw01.ChecksumAssociates", spec := "checksumAssociates", unfollowed := true, recurses := true, apart := false }
def ChecksumAssociatesSaid : Prop := checksumAssociatesRow.holds Try.pinned (OpenSpec.ofChange checksumAssociatesSpec)

/-- ITS FALSE NEIGHBOUR: 'it returns false'. Refute it at one input. -/
def checksumAssociatesWrong : ChangeSpec := { name := "checksumAssociates", fn := fun _ => fun
  | [d1, d2, d3, d4, d5] => { results := [.lit (.bool false)], args := [d1, d2, d3, d4, d5] }
  | _ => none }
def ChecksumAssociatesWrongFalsely : Prop := checksumAssociatesRow.holds Try.pinned (OpenSpec.ofChange checksumAssociatesWrong)

/-- 'volumegrouplaw01.ChecksumCombines': WHATEVER THE INPUT: true; the input reads as it did. -/
def checksumCombinesSpec : ChangeSpec := { name := "checksumCombines", fn := fun _ => fun
  | [d1, d2, d3, d4, d5] => { results := [.lit (.bool true)], args := [d1, d2, d3, d4, d5] }
  | _ => none }
def checksumCombinesRow : OpenClaim := { program := "ytialblddcgdlkaa", sum := "ca69aba587e5e189f9f4db298fdb17a088237c45dbf0be744d92f9cf6f08881e", func := "volumegroup/volumegrouplaw01.ChecksumCombines", spec := "checksumCombines", unfollowed := true, recurses := true, apart := false }
def ChecksumCombinesSaid : Prop := checksumCombinesRow.holds Try.pinned (OpenSpec.ofChange checksumCombinesSpec)

/-- ITS FALSE NEIGHBOUR: 'it returns false'. Refute it at one input. -/
def checksumCombinesWrong : ChangeSpec := { name := "checksumCombines", fn := fun _ => fun
  | [d1, d2, d3, d4, d5] => { results := [.lit (.bool false)], args := [d1, d2, d3, d4, d5] }
  | _ => none }
def ChecksumCombinesWrongFalsely : Prop := checksumCombinesRow.holds Try.pinned (OpenSpec.ofChange checksumCombinesWrong)

/- THE SECOND FORM. 'bulk': how many values and letters a reading holds, each counted each time it is reached (what is shared counts as often as it is met; a slice's spare places count too). A statement '..UptoSaid' is the law's where the arguments, and the package variables that the reading takes, are together of bulk at most 1048576: NARROWER than '..Said'. Prove '..Said' where nothing that the law and all that it calls make is longer than what came in: it says more and counts as full. Else prove '..UptoSaid'. A law counts once. -/
mutual
def uptoBulk {H : Type} : DataW H → Nat
  | .lit (.string bytes) => bytes.length + 1
  | .lit _ => 1
  | .nil => 1
  | .ptr d => uptoBulk d + 1
  | .slice elems spare => uptoBulkAll elems + uptoBulkAll spare + 1
  | .agg parts => uptoBulkAll parts + 1
  | .iface _ d => uptoBulk d + 1
  | .map entries => uptoBulkEntries entries + 1
  | .held _ => 1
def uptoBulkAll {H : Type} : List (DataW H) → Nat
  | [] => 0
  | d :: r => uptoBulk d + uptoBulkAll r
def uptoBulkEntries {H : Type} : List (Lit × DataW H) → Nat
  | [] => 0
  | x :: r => uptoBulkEntry x + uptoBulkEntries r
def uptoBulkEntry {H : Type} : Lit × DataW H → Nat
  | (.string bytes, d) => bytes.length + uptoBulk d + 1
  | (_, d) => uptoBulk d + 1
 end
def uptoSmall : (H : Type) → List (DataW H) → Bool := fun _ ds => decide (uptoBulkAll ds ≤ 1048576)
def OpenSpec.upto (s : _root_.Go.ChangeSpec) : _root_.Go.OpenSpec := { _root_.Go.OpenSpec.ofChange s with cond := some uptoSmall }

/-- 'volumegrouplaw01.ChecksumValues', WHERE WHAT IT READS IS OF BULK AT MOST 1048576: true; the input reads as it did. -/
def checksumValuesUptoRow : OpenClaim := { program := "ytialblddcgdlkaa", sum := "ca69aba587e5e189f9f4db298fdb17a088237c45dbf0be744d92f9cf6f08881e", func := "volumegroup/volumegrouplaw01.ChecksumValues", spec := "checksumValues", unfollowed := true, recurses := true, apart := false, narrowed := true }
def ChecksumValuesUptoSaid : Prop := checksumValuesUptoRow.holds Try.pinned (OpenSpec.upto checksumValuesSpec)

/-- 'volumegrouplaw01.ChecksumExtends', WHERE WHAT IT READS IS OF BULK AT MOST 1048576: true; the input reads as it did. -/
def checksumExtendsUptoRow : OpenClaim := { program := "ytialblddcgdlkaa", sum := "ca69aba587e5e189f9f4db298fdb17a088237c45dbf0be744d92f9cf6f08881e", func := "volumegroup/volumegrouplaw01.ChecksumExtends", spec := "checksumExtends", unfollowed := true, recurses := true, apart := false, narrowed := true }
def ChecksumExtendsUptoSaid : Prop := checksumExtendsUptoRow.holds Try.pinned (OpenSpec.upto checksumExtendsSpec)

/-- 'volumegrouplaw01.ChecksumWords', WHERE WHAT IT READS IS OF BULK AT MOST 1048576: true; the input reads as it did. -/
def checksumWordsUptoRow : OpenClaim := { program := "ytialblddcgdlkaa", sum := "ca69aba587e5e189f9f4db298fdb17a088237c45dbf0be744d92f9cf6f08881e", func := "volumegroup/volumegrouplaw01.ChecksumWords", spec := "checksumWords", unfollowed := true, recurses := true, apart := false, narrowed := true }
def ChecksumWordsUptoSaid : Prop := checksumWordsUptoRow.holds Try.pinned (OpenSpec.upto checksumWordsSpec)

/-- 'volumegrouplaw01.ChecksumBursts', WHERE WHAT IT READS IS OF BULK AT MOST 1048576: true; the input reads as it did. -/
def checksumBurstsUptoRow : OpenClaim := { program := "ytialblddcgdlkaa", sum := "ca69aba587e5e189f9f4db298fdb17a088237c45dbf0be744d92f9cf6f08881e", func := "volumegroup/volumegrouplaw01.ChecksumBursts", spec := "checksumBursts", unfollowed := true, recurses := true, apart := false, narrowed := true }
def ChecksumBurstsUptoSaid : Prop := checksumBurstsUptoRow.holds Try.pinned (OpenSpec.upto checksumBurstsSpec)

/-- 'volumegrouplaw01.ChecksumLinear', WHERE WHAT IT READS IS OF BULK AT MOST 1048576: true; the input reads as it did. -/
def checksumLinearUptoRow : OpenClaim := { program := "ytialblddcgdlkaa", sum := "ca69aba587e5e189f9f4db298fdb17a088237c45dbf0be744d92f9cf6f08881e", func := "volumegroup/volumegrouplaw01.ChecksumLinear", spec := "checksumLinear", unfollowed := true, recurses := true, apart := false, narrowed := true }
def ChecksumLinearUptoSaid : Prop := checksumLinearUptoRow.holds Try.pinned (OpenSpec.upto checksumLinearSpec)

/-- 'volumegrouplaw01.ChecksumAssociates', WHERE WHAT IT READS IS OF BULK AT MOST 1048576: true; the input reads as it did. -/
def checksumAssociatesUptoRow : OpenClaim := { program := "ytialblddcgdlkaa", sum := "ca69aba587e5e189f9f4db298fdb17a088237c45dbf0be744d92f9cf6f08881e", func := "volumegroup/volumegrouplaw01.ChecksumAssociates", spec := "checksumAssociates", unfollowed := true, recurses := true, apart := false, narrowed := true }
def ChecksumAssociatesUptoSaid : Prop := checksumAssociatesUptoRow.holds Try.pinned (OpenSpec.upto checksumAssociatesSpec)

/-- 'volumegrouplaw01.ChecksumCombines', WHERE WHAT IT READS IS OF BULK AT MOST 1048576: true; the input reads as it did. -/
def checksumCombinesUptoRow : OpenClaim := { program := "ytialblddcgdlkaa", sum := "ca69aba587e5e189f9f4db298fdb17a088237c45dbf0be744d92f9cf6f08881e", func := "volumegroup/volumegrouplaw01.ChecksumCombines", spec := "checksumCombines", unfollowed := true, recurses := true, apart := false, narrowed := true }
def ChecksumCombinesUptoSaid : Prop := checksumCombinesUptoRow.holds Try.pinned (OpenSpec.upto checksumCombinesSpec)

end Rows
end Go.Proofs.Ytialblddcgdlkaa
