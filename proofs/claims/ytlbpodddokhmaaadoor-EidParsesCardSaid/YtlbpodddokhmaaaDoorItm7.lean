/-
  The walk of the reference's Head.
  Conditions: the kind of a head is at most 7.
-/
import Derived.Test.YtlbpodddokhmaaaDoorItm6
namespace Go.Proofs.YtlbpodddokhmaaaDoor.Itm
open Go.ChangeShapes Go.WideShapes Go.ChangeAt Go.RowKit Go.Deep
end Go.Proofs.YtlbpodddokhmaaaDoor.Itm
