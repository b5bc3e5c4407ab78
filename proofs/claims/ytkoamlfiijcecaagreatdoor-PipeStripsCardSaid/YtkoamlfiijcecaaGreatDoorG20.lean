/-
  Several texts in one: PipeStripsG.
  Conditions: named at each.
-/
import Derived.Test.YtkoamlfiijcecaaGreatDoorG19
import Derived.Test.YtkoamlfiijcecaaGreatDoorRows
import Derived.SevenTiedAt
import Derived.KernelRfl
set_option maxHeartbeats 16000000
set_option linter.unusedSimpArgs false
set_option linter.unusedVariables false
set_option linter.unusedSectionVars false
namespace Go.Proofs.YtkoamlfiijcecaaGreatDoor.PipeStrips
set_option maxRecDepth 100000 in
theorem goes:false=Rows.pipeStripsRow.goesBy Tryz.pinned.checked.prog:=by kernel_rfl
end Go.Proofs.YtkoamlfiijcecaaGreatDoor.PipeStrips
