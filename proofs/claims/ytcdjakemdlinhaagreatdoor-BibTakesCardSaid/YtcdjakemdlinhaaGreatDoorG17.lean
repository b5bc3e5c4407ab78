/-
  Several texts in one: BibTakesG.
  Conditions: named at each.
-/
import Derived.Test.YtcdjakemdlinhaaGreatDoorG16
import Derived.Test.YtcdjakemdlinhaaGreatDoorRows
import Derived.SevenTiedAt
import Derived.KernelRfl
set_option maxHeartbeats 16000000
set_option linter.unusedSimpArgs false
set_option linter.unusedVariables false
set_option linter.unusedSectionVars false
namespace Go.Proofs.YtcdjakemdlinhaaGreatDoor.BibTakes
set_option maxRecDepth 100000 in
theorem goes:false=Rows.bibTakesRow.goesBy Tryz.pinned.checked.prog:=by kernel_rfl
end Go.Proofs.YtcdjakemdlinhaaGreatDoor.BibTakes
