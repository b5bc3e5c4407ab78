/-
 PipeStrips: whatever block a bundle is stripped of, what is left is the reference's, or there is its error.
 Conditions: none (the listed error is as the program's text lays it: the card ties that).
-/
import Derived.Test.YtkoamlfiijcecaaGreatDoorG20
import Derived.Test.YtkoamlfiijcecaaGreatDoorTie
import Derived.Test.YtkoamlfiijcecaaGreatDoorCards
import Derived.SevenTiedAt
set_option maxHeartbeats 16000000
set_option linter.unusedSimpArgs false
set_option linter.unusedVariables false
set_option linter.unusedSectionVars false
namespace Go.Proofs.YtkoamlfiijcecaaGreatDoor.PipeStrips
open Go.ChangeShapes Go.WideShapes Go.ChangeAt Go.RowKit Go.Proofs.YtkoamlfiijcecaaGreatDoor.Sx
set_option maxRecDepth 100000 in
theorem proved : Rows.PipeStripsCardSaid :=
 Claim7.holds_tied_plain_at .later [] [.sentinel] true (true, "4837894407b224f20b26846f00639c503450556efef3002fcea4ba65605be0a3") true
  over (fun _ h => by cases h) kR (fun _ h => by cases h) pipeStrips_row_tie rfl ⟨rfl, rfl⟩ kR rfl
  (fun f fn hf hfn => by
   obtain rfl : f = 3 := Option.some.inj ((show Tryz.prog.funcNamed "dromond/dromondlaw22.PipeStrips" = some 3 by kernel_rfl).symm.trans hf) |>.symm
   obtain rfl : fn = Tryz.f3 := (Option.some.inj (Tryz.func3.symm.trans hfn)).symm
   exact ⟨by kernel_rfl, fun j t ht => by
    have hm := Array.mem_of_getElem? ht
    have hall : (Tryz.f3.params.toList.all fun u => !Tryz.prog.wantsStandIn u) = true := by kernel_rfl
    exact (show Tryz.prog.wantsStandIn t = false by simpa using List.all_eq_true.1 hall t (by simpa using hm))⟩)
  goes
#print axioms proved
end Go.Proofs.YtkoamlfiijcecaaGreatDoor.PipeStrips
