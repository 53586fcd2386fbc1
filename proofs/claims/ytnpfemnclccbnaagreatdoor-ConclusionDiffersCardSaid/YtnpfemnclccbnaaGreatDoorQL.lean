/- A part of the proof of the card of licitlaw37.ConclusionDiffers. -/
import Derived.Test.YtnpfemnclccbnaaGreatDoorQK
set_option linter.unusedSectionVars false
set_option linter.unusedSimpArgs false
set_option linter.unusedVariables false
namespace Go.Proofs.Qas
open Go.RowKit
theorem awake37_run : valOf (run E37 100000 (.call 8 []) noAW) = some (.bool true) := by kernel_rfl
theorem awake37 (w : World) : Calls Tryz.prog 8 #[] w fun e w' => e = .returned (.bool true) ∧ Below w.heap.size w w' := calls_of_run E37_ok 100000 awake37_run rfl rfl w
end Go.Proofs.Qas
