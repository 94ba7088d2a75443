/- awake answers true (printed by genAwake.py). -/
import Derived.Test.YtmmdckijokiomaaHeld
namespace Go.Proofs.Ytmmdckijokiomaa
open Go.RowKit
theorem aw0 : newR 1 = ((⟨[sz], 0, []⟩ : St), 0) := by decide
theorem aw1 : missR ⟨[sz], 0, []⟩ 7 = ((⟨[sz], 0, [7]⟩ : St), false, 0) := by decide
theorem aw2 : missR ⟨[sz], 0, [7]⟩ 7 = ((⟨[sz], 0, []⟩ : St), true, 0) := by decide
theorem aw4 : placeR ⟨[sz], 0, []⟩ 0 7 = ((⟨[⟨true, false, 7, 1⟩], 1, []⟩ : St), 0) := by decide
theorem aw5 : touchR ⟨[⟨true, false, 7, 1⟩], 1, []⟩ 0 = ((⟨[⟨true, false, 7, 2⟩], 2, []⟩ : St), 0) := by decide
theorem aw6 : dirtyR ⟨[⟨true, false, 7, 2⟩], 2, []⟩ 0 true = ((⟨[⟨true, true, 7, 2⟩], 2, []⟩ : St), 0) := by decide
theorem aw7 : clearR ⟨[⟨true, true, 7, 2⟩], 2, []⟩ 0 = (St.none_, 27) := by decide
theorem aw8 : (if validB ⟨[⟨true, false, 7, 1⟩], 1, []⟩ = true then findI (St.slots ⟨[⟨true, false, 7, 1⟩], 1, []⟩) 7 else -1) = 0 := by decide
theorem aw9 : oldestI ⟨[⟨true, true, 7, 2⟩], 2, []⟩ = 0 := by decide
theorem aw10 : validE ⟨[⟨true, true, 7, 2⟩], 2, []⟩ = 0 := by decide
theorem aw3 : victimV ⟨[sz], 0, []⟩ = .tuple #[.int .i64 0, .int .i64 0] := by rfl
end Go.Proofs.Ytmmdckijokiomaa
