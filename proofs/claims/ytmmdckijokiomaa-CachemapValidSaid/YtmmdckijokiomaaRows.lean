/-
  No cell of these rows narrows 'for every input' (looked for: loops, veiled, ifaces, maps, wideKeys, modest, calm, conditions, laid).
  DERIVED. THE GIVEN ROWS OF THIS SEAT. 5 by the template 'for every input the law returns true; each argument reads behind the call as it read before'; 0 by the template 'total and deterministic' (their statements: YtmmdckijokiomaaTotals.lean).
  GIVEN WITH THE SEED: the statements are not yours to turn. If you find one false, say at which input.
  Laid BY PROGRAM, IN A SANDBOX (cutbox-rows.mjs): the forced cells as the released guide's own fill.sh prints them over the translation 0d7c532a9e499789… (all of the seat's roots in one cut). By AI agents, Wed Nov 11 2026. No macro, syntax, notation, axiom, sorry.
-/
import Derived.Test.YtmmdckijokiomaaChecked
import GoSem.Claim
import GoSem.ClaimJoined
import GoSem.ClaimMapViews
import Derived.JoinedTies
import Derived.KernelRfl
namespace Go.Proofs.Ytmmdckijokiomaa
/- THE CELL 'sum', in the pinned program and in every row, IS THE sha256 OF THE DUMP (.gsa) THAT YtmmdckijokiomaaProg.lean LOADS. Nothing in Lean hashes anything: it is a label: what it is worth is what the hold of that sum in a sandbox is worth. -/
noncomputable def Try.pinned : Pinned := { name := "ytmmdckijokiomaa", sum := "0d7c532a9e499789b4bb2b8b6159fc6d037c5e01674c530e51664a8793c4a586", checked := Try.checked }
namespace Rows
def none {H : Type} : Left H := { results := [], args := [] }

/-- 'volumegrouplaw31.CachemapStates': WHATEVER THE INPUT: true; the input reads as it did. -/
def cachemapStatesSpec : ChangeSpec := { name := "cachemapStates", fn := fun _ => fun
  | [d1, d2] => { results := [.lit (.bool true)], args := [d1, d2] }
  | _ => none }
def cachemapStatesRow : OpenClaim := { program := "ytmmdckijokiomaa", sum := "0d7c532a9e499789b4bb2b8b6159fc6d037c5e01674c530e51664a8793c4a586", func := "volumegroup/volumegrouplaw31.CachemapStates", spec := "cachemapStates", unfollowed := true, recurses := true, apart := false }
def CachemapStatesSaid : Prop := cachemapStatesRow.holds Try.pinned (OpenSpec.ofChange cachemapStatesSpec)

/-- ITS FALSE NEIGHBOUR: 'it returns false'. Refute it at one input. -/
def cachemapStatesWrong : ChangeSpec := { name := "cachemapStates", fn := fun _ => fun
  | [d1, d2] => { results := [.lit (.bool false)], args := [d1, d2] }
  | _ => none }
def CachemapStatesWrongFalsely : Prop := cachemapStatesRow.holds Try.pinned (OpenSpec.ofChange cachemapStatesWrong)

/-- 'volumegrouplaw31.CachemapCalls': WHATEVER THE INPUT: true; the input reads as it did. -/
def cachemapCallsSpec : ChangeSpec := { name := "cachemapCalls", fn := fun _ => fun
  | [d] => { results := [.lit (.bool true)], args := [d] }
  | _ => none }
def cachemapCallsRow : OpenClaim := { program := "ytmmdckijokiomaa", sum := "0d7c532a9e499789b4bb2b8b6159fc6d037c5e01674c530e51664a8793c4a586", func := "volumegroup/volumegrouplaw31.CachemapCalls", spec := "cachemapCalls", unfollowed := true, recurses := true, apart := false }
def CachemapCallsSaid : Prop := cachemapCallsRow.holds Try.pinned (OpenSpec.ofChange cachemapCallsSpec)

/-- ITS FALSE NEIGHBOUR: 'it returns false'. Refute it at one input. -/
def cachemapCallsWrong : ChangeSpec := { name := "cachemapCalls", fn := fun _ => fun
  | [d] => { results := [.lit (.bool false)], args := [d] }
  | _ => none }
def CachemapCallsWrongFalsely : Prop := cachemapCallsRow.holds Try.pinned (OpenSpec.ofChange cachemapCallsWrong)

/-- 'volumegrouplaw31.CachemapValid': WHATEVER THE INPUT: true; the input reads as it did. -/
def cachemapValidSpec : ChangeSpec := { name := "cachemapValid", fn := fun _ => fun
  | [d] => { results := [.lit (.bool true)], args := [d] }
  | _ => none }
def cachemapValidRow : OpenClaim := { program := "ytmmdckijokiomaa", sum := "0d7c532a9e499789b4bb2b8b6159fc6d037c5e01674c530e51664a8793c4a586", func := "volumegroup/volumegrouplaw31.CachemapValid", spec := "cachemapValid", unfollowed := true, recurses := true, apart := false }
def CachemapValidSaid : Prop := cachemapValidRow.holds Try.pinned (OpenSpec.ofChange cachemapValidSpec)

/-- ITS FALSE NEIGHBOUR: 'it returns false'. Refute it at one input. -/
def cachemapValidWrong : ChangeSpec := { name := "cachemapValid", fn := fun _ => fun
  | [d] => { results := [.lit (.bool false)], args := [d] }
  | _ => none }
def CachemapValidWrongFalsely : Prop := cachemapValidRow.holds Try.pinned (OpenSpec.ofChange cachemapValidWrong)

/-- 'volumegrouplaw31.CachemapSecond': WHATEVER THE INPUT: true; the input reads as it did. -/
def cachemapSecondSpec : ChangeSpec := { name := "cachemapSecond", fn := fun _ => fun
  | [d1, d2] => { results := [.lit (.bool true)], args := [d1, d2] }
  | _ => none }
def cachemapSecondRow : OpenClaim := { program := "ytmmdckijokiomaa", sum := "0d7c532a9e499789b4bb2b8b6159fc6d037c5e01674c530e51664a8793c4a586", func := "volumegroup/volumegrouplaw31.CachemapSecond", spec := "cachemapSecond", unfollowed := true, recurses := true, apart := false }
def CachemapSecondSaid : Prop := cachemapSecondRow.holds Try.pinned (OpenSpec.ofChange cachemapSecondSpec)

/-- ITS FALSE NEIGHBOUR: 'it returns false'. Refute it at one input. -/
def cachemapSecondWrong : ChangeSpec := { name := "cachemapSecond", fn := fun _ => fun
  | [d1, d2] => { results := [.lit (.bool false)], args := [d1, d2] }
  | _ => none }
def CachemapSecondWrongFalsely : Prop := cachemapSecondRow.holds Try.pinned (OpenSpec.ofChange cachemapSecondWrong)

/-- 'volumegrouplaw31.CachemapVictims': WHATEVER THE INPUT: true; the input reads as it did. -/
def cachemapVictimsSpec : ChangeSpec := { name := "cachemapVictims", fn := fun _ => fun
  | [d] => { results := [.lit (.bool true)], args := [d] }
  | _ => none }
def cachemapVictimsRow : OpenClaim := { program := "ytmmdckijokiomaa", sum := "0d7c532a9e499789b4bb2b8b6159fc6d037c5e01674c530e51664a8793c4a586", func := "volumegroup/volumegrouplaw31.CachemapVictims", spec := "cachemapVictims", unfollowed := true, recurses := true, apart := false }
def CachemapVictimsSaid : Prop := cachemapVictimsRow.holds Try.pinned (OpenSpec.ofChange cachemapVictimsSpec)

/-- ITS FALSE NEIGHBOUR: 'it returns false'. Refute it at one input. -/
def cachemapVictimsWrong : ChangeSpec := { name := "cachemapVictims", fn := fun _ => fun
  | [d] => { results := [.lit (.bool false)], args := [d] }
  | _ => none }
def CachemapVictimsWrongFalsely : Prop := cachemapVictimsRow.holds Try.pinned (OpenSpec.ofChange cachemapVictimsWrong)

/- THE SECOND FORM. 'bulk': how many values and letters a reading holds, each counted each time it is reached (what is shared counts as often as it is met; a slice's spare places count too). A statement '..UptoSaid' is the law's where the arguments, and the package variables that the reading takes, are together of bulk at most 1048576: NARROWER than '..Said'. Prove '..Said' where nothing that the law and all that it calls make is longer than what came in: it says more and counts as full. Else prove '..UptoSaid'. A law counts once. -/
mutual
def uptoBulk {H : Type} : DataW H → Nat
  | .lit (.string bytes) => bytes.length + 1
  | .lit _ => 1
  | .nil => 1
  | .ptr d => uptoBulk d + 1
  | .slice elems spare => uptoBulkAll elems + uptoBulkAll spare + 1
  | .agg parts => uptoBulkAll parts + 1
  | .iface _ d => uptoBulk d + 1
  | .map entries => uptoBulkEntries entries + 1
  | .held _ => 1
def uptoBulkAll {H : Type} : List (DataW H) → Nat
  | [] => 0
  | d :: r => uptoBulk d + uptoBulkAll r
def uptoBulkEntries {H : Type} : List (Lit × DataW H) → Nat
  | [] => 0
  | x :: r => uptoBulkEntry x + uptoBulkEntries r
def uptoBulkEntry {H : Type} : Lit × DataW H → Nat
  | (.string bytes, d) => bytes.length + uptoBulk d + 1
  | (_, d) => uptoBulk d + 1
 end
def uptoSmall : (H : Type) → List (DataW H) → Bool := fun _ ds => decide (uptoBulkAll ds ≤ 1048576)
def OpenSpec.upto (s : _root_.Go.ChangeSpec) : _root_.Go.OpenSpec := { _root_.Go.OpenSpec.ofChange s with cond := some uptoSmall }

/-- 'volumegrouplaw31.CachemapStates', WHERE WHAT IT READS IS OF BULK AT MOST 1048576: true; the input reads as it did. -/
def cachemapStatesUptoRow : OpenClaim := { program := "ytmmdckijokiomaa", sum := "0d7c532a9e499789b4bb2b8b6159fc6d037c5e01674c530e51664a8793c4a586", func := "volumegroup/volumegrouplaw31.CachemapStates", spec := "cachemapStates", unfollowed := true, recurses := true, apart := false, narrowed := true }
def CachemapStatesUptoSaid : Prop := cachemapStatesUptoRow.holds Try.pinned (OpenSpec.upto cachemapStatesSpec)

/-- 'volumegrouplaw31.CachemapCalls', WHERE WHAT IT READS IS OF BULK AT MOST 1048576: true; the input reads as it did. -/
def cachemapCallsUptoRow : OpenClaim := { program := "ytmmdckijokiomaa", sum := "0d7c532a9e499789b4bb2b8b6159fc6d037c5e01674c530e51664a8793c4a586", func := "volumegroup/volumegrouplaw31.CachemapCalls", spec := "cachemapCalls", unfollowed := true, recurses := true, apart := false, narrowed := true }
def CachemapCallsUptoSaid : Prop := cachemapCallsUptoRow.holds Try.pinned (OpenSpec.upto cachemapCallsSpec)

/-- 'volumegrouplaw31.CachemapValid', WHERE WHAT IT READS IS OF BULK AT MOST 1048576: true; the input reads as it did. -/
def cachemapValidUptoRow : OpenClaim := { program := "ytmmdckijokiomaa", sum := "0d7c532a9e499789b4bb2b8b6159fc6d037c5e01674c530e51664a8793c4a586", func := "volumegroup/volumegrouplaw31.CachemapValid", spec := "cachemapValid", unfollowed := true, recurses := true, apart := false, narrowed := true }
def CachemapValidUptoSaid : Prop := cachemapValidUptoRow.holds Try.pinned (OpenSpec.upto cachemapValidSpec)

/-- 'volumegrouplaw31.CachemapSecond', WHERE WHAT IT READS IS OF BULK AT MOST 1048576: true; the input reads as it did. -/
def cachemapSecondUptoRow : OpenClaim := { program := "ytmmdckijokiomaa", sum := "0d7c532a9e499789b4bb2b8b6159fc6d037c5e01674c530e51664a8793c4a586", func := "volumegroup/volumegrouplaw31.CachemapSecond", spec := "cachemapSecond", unfollowed := true, recurses := true, apart := false, narrowed := true }
def CachemapSecondUptoSaid : Prop := cachemapSecondUptoRow.holds Try.pinned (OpenSpec.upto cachemapSecondSpec)

/-- 'volumegrouplaw31.CachemapVictims', WHERE WHAT IT READS IS OF BULK AT MOST 1048576: true; the input reads as it did. -/
def cachemapVictimsUptoRow : OpenClaim := { program := "ytmmdckijokiomaa", sum := "0d7c532a9e499789b4bb2b8b6159fc6d037c5e01674c530e51664a8793c4a586", func := "volumegroup/volumegrouplaw31.CachemapVictims", spec := "cachemapVictims", unfollowed := true, recurses := true, apart := false, narrowed := true }
def CachemapVictimsUptoSaid : Prop := cachemapVictimsUptoRow.holds Try.pinned (OpenSpec.upto cachemapVictimsSpec)

end Rows
end Go.Proofs.Ytmmdckijokiomaa
