/-
 BibTakes: whatever operation is taken out of whatever bundle, what is left is the reference's, or there is its error.
 Conditions: none (the listed error is as the program's text lays it: the card ties that).
-/
import Derived.Test.YtcdjakemdlinhaaGreatDoorG17
import Derived.Test.YtcdjakemdlinhaaGreatDoorTie
import Derived.Test.YtcdjakemdlinhaaGreatDoorCards
import Derived.SevenTiedAt
set_option maxHeartbeats 16000000
set_option linter.unusedSimpArgs false
set_option linter.unusedVariables false
set_option linter.unusedSectionVars false
namespace Go.Proofs.YtcdjakemdlinhaaGreatDoor.BibTakes
open Go.ChangeShapes Go.WideShapes Go.ChangeAt Go.RowKit Go.Proofs.YtcdjakemdlinhaaGreatDoor.Sx
set_option maxRecDepth 100000 in
theorem proved : Rows.BibTakesCardSaid :=
 Claim7.holds_tied_plain_at .later [] [.sentinel] true (true, "162cf932418265295b348462ddf9a643087dcb925c3e69666c5741a7b2464bdc") true
  over (fun _ h => by cases h) kR (fun _ h => by cases h) bibTakes_row_tie rfl ⟨rfl, rfl⟩ kR rfl
  (fun f fn hf hfn => by
   obtain rfl : f = 5 := Option.some.inj ((show Tryz.prog.funcNamed "dromond/dromondlaw18.BibTakes" = some 5 by kernel_rfl).symm.trans hf) |>.symm
   obtain rfl : fn = Tryz.f5 := (Option.some.inj (Tryz.func5.symm.trans hfn)).symm
   exact ⟨by kernel_rfl, fun j t ht => by
    have hm := Array.mem_of_getElem? ht
    have hall : (Tryz.f5.params.toList.all fun u => !Tryz.prog.wantsStandIn u) = true := by kernel_rfl
    exact (show Tryz.prog.wantsStandIn t = false by simpa using List.all_eq_true.1 hall t (by simpa using hm))⟩)
  goes
#print axioms proved
end Go.Proofs.YtcdjakemdlinhaaGreatDoor.BibTakes
