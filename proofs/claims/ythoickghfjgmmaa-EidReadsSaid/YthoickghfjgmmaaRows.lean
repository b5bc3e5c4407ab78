/-
  NARROWER THAN 'FOR EVERY INPUT', by the rows' own cells (each row's printed sentence says how): EidReads: loops.
  DERIVED. THE GIVEN ROWS OF THIS SEAT. 9 by the template 'for every input the law returns true; each argument reads behind the call as it read before'; 0 by the template 'total and deterministic' (their statements: YthoickghfjgmmaaTotals.lean).
  GIVEN WITH THE SEED: the statements are not yours to turn. If you find one false, say at which input.
  Laid BY PROGRAM, IN A SANDBOX (cutbox-rows.mjs): the forced cells as the released guide's own fill.sh prints them over the translation ae6c37c74e2cc902… (all of the seat's roots in one cut). By AI agents, Wed Nov 11 2026. No macro, syntax, notation, axiom, sorry.
-/
import Derived.Test.YthoickghfjgmmaaChecked
import GoSem.Claim
import GoSem.ClaimJoined
import GoSem.ClaimMapViews
import Derived.JoinedTies
import Derived.KernelRfl
namespace Go.Proofs.Ythoickghfjgmmaa
/- THE CELL 'sum', in the pinned program and in every row, IS THE sha256 OF THE DUMP (.gsa) THAT YthoickghfjgmmaaProg.lean LOADS. Nothing in Lean hashes anything: it is a label: what it is worth is what the hold of that sum in a sandbox is worth. -/
noncomputable def Try.pinned : Pinned := { name := "ythoickghfjgmmaa", sum := "ae6c37c74e2cc9020da914baae5a35d7b85f8943354b176ab3119ab8c2bb32e3", checked := Try.checked }
namespace Rows
def none {H : Type} : Left H := { results := [], args := [] }

/-- 'dromondlaw09.EngineSizes': WHATEVER THE INPUT: true; the input reads as it did. -/
def engineSizesSpec : ChangeSpec := { name := "engineSizes", fn := fun _ => fun
  | [d] => { results := [.lit (.bool true)], args := [d] }
  | _ => none }
def engineSizesRow : OpenClaim := { program := "ythoickghfjgmmaa", sum := "ae6c37c74e2cc9020da914baae5a35d7b85f8943354b176ab3119ab8c2bb32e3", func := "dromond/dromondlaw09.EngineSizes", spec := "engineSizes", unfollowed := true, recurses := true, apart := false }
def EngineSizesSaid : Prop := engineSizesRow.holds Try.pinned (OpenSpec.ofChange engineSizesSpec)

/-- ITS FALSE NEIGHBOUR: 'it returns false'. Refute it at one input. -/
def engineSizesWrong : ChangeSpec := { name := "engineSizes", fn := fun _ => fun
  | [d] => { results := [.lit (.bool false)], args := [d] }
  | _ => none }
def EngineSizesWrongFalsely : Prop := engineSizesRow.holds Try.pinned (OpenSpec.ofChange engineSizesWrong)

/-- 'dromondlaw10.EidNodes': WHATEVER THE INPUT: true; the input reads as it did. -/
def eidNodesSpec : ChangeSpec := { name := "eidNodes", fn := fun _ => fun
  | [d1, d2] => { results := [.lit (.bool true)], args := [d1, d2] }
  | _ => none }
def eidNodesRow : OpenClaim := { program := "ythoickghfjgmmaa", sum := "ae6c37c74e2cc9020da914baae5a35d7b85f8943354b176ab3119ab8c2bb32e3", func := "dromond/dromondlaw10.EidNodes", spec := "eidNodes", apart := false }
def EidNodesSaid : Prop := eidNodesRow.holds Try.pinned (OpenSpec.ofChange eidNodesSpec)

/-- ITS FALSE NEIGHBOUR: 'it returns false'. Refute it at one input. -/
def eidNodesWrong : ChangeSpec := { name := "eidNodes", fn := fun _ => fun
  | [d1, d2] => { results := [.lit (.bool false)], args := [d1, d2] }
  | _ => none }
def EidNodesWrongFalsely : Prop := eidNodesRow.holds Try.pinned (OpenSpec.ofChange eidNodesWrong)

/-- 'dromondlaw10.EidMatches': WHATEVER THE INPUT: true; the input reads as it did. -/
def eidMatchesSpec : ChangeSpec := { name := "eidMatches", fn := fun _ => fun
  | [d1, d2] => { results := [.lit (.bool true)], args := [d1, d2] }
  | _ => none }
def eidMatchesRow : OpenClaim := { program := "ythoickghfjgmmaa", sum := "ae6c37c74e2cc9020da914baae5a35d7b85f8943354b176ab3119ab8c2bb32e3", func := "dromond/dromondlaw10.EidMatches", spec := "eidMatches", apart := false }
def EidMatchesSaid : Prop := eidMatchesRow.holds Try.pinned (OpenSpec.ofChange eidMatchesSpec)

/-- ITS FALSE NEIGHBOUR: 'it returns false'. Refute it at one input. -/
def eidMatchesWrong : ChangeSpec := { name := "eidMatches", fn := fun _ => fun
  | [d1, d2] => { results := [.lit (.bool false)], args := [d1, d2] }
  | _ => none }
def EidMatchesWrongFalsely : Prop := eidMatchesRow.holds Try.pinned (OpenSpec.ofChange eidMatchesWrong)

/-- 'dromondlaw05.ShaBits': WHATEVER THE INPUT: true; the input reads as it did. -/
def shaBitsSpec : ChangeSpec := { name := "shaBits", fn := fun _ => fun
  | [d1, d2] => { results := [.lit (.bool true)], args := [d1, d2] }
  | _ => none }
def shaBitsRow : OpenClaim := { program := "ythoickghfjgmmaa", sum := "ae6c37c74e2cc9020da914baae5a35d7b85f8943354b176ab3119ab8c2bb32e3", func := "dromond/dromondlaw05.ShaBits", spec := "shaBits", inPlace := ["math/bits.Add64"], unfollowed := true, recurses := true, apart := false }
def ShaBitsSaid : Prop := shaBitsRow.holds Try.pinned (OpenSpec.ofChange shaBitsSpec)

/-- ITS FALSE NEIGHBOUR: 'it returns false'. Refute it at one input. -/
def shaBitsWrong : ChangeSpec := { name := "shaBits", fn := fun _ => fun
  | [d1, d2] => { results := [.lit (.bool false)], args := [d1, d2] }
  | _ => none }
def ShaBitsWrongFalsely : Prop := shaBitsRow.holds Try.pinned (OpenSpec.ofChange shaBitsWrong)

/-- 'dromondlaw05.ShaRoots': WHATEVER THE INPUT: true; the input reads as it did. -/
def shaRootsSpec : ChangeSpec := { name := "shaRoots", fn := fun _ => fun
  | [d1, d2] => { results := [.lit (.bool true)], args := [d1, d2] }
  | _ => none }
def shaRootsRow : OpenClaim := { program := "ythoickghfjgmmaa", sum := "ae6c37c74e2cc9020da914baae5a35d7b85f8943354b176ab3119ab8c2bb32e3", func := "dromond/dromondlaw05.ShaRoots", spec := "shaRoots", inPlace := ["math/bits.Add64"], unfollowed := true, recurses := true, apart := false }
def ShaRootsSaid : Prop := shaRootsRow.holds Try.pinned (OpenSpec.ofChange shaRootsSpec)

/-- ITS FALSE NEIGHBOUR: 'it returns false'. Refute it at one input. -/
def shaRootsWrong : ChangeSpec := { name := "shaRoots", fn := fun _ => fun
  | [d1, d2] => { results := [.lit (.bool false)], args := [d1, d2] }
  | _ => none }
def ShaRootsWrongFalsely : Prop := shaRootsRow.holds Try.pinned (OpenSpec.ofChange shaRootsWrong)

/-- 'dromondlaw10.EidReads': WHATEVER THE INPUT: true; the input reads as it did. -/
def eidReadsSpec : ChangeSpec := { name := "eidReads", fn := fun _ => fun
  | [d] => { results := [.lit (.bool true)], args := [d] }
  | _ => none }
def eidReadsRow : OpenClaim := { program := "ythoickghfjgmmaa", sum := "ae6c37c74e2cc9020da914baae5a35d7b85f8943354b176ab3119ab8c2bb32e3", func := "dromond/dromondlaw10.EidReads", spec := "eidReads", recurses := true, loops := true, apart := false }
def EidReadsSaid : Prop := eidReadsRow.holds Try.pinned (OpenSpec.ofChange eidReadsSpec)

/-- ITS FALSE NEIGHBOUR: 'it returns false'. Refute it at one input. -/
def eidReadsWrong : ChangeSpec := { name := "eidReads", fn := fun _ => fun
  | [d] => { results := [.lit (.bool false)], args := [d] }
  | _ => none }
def EidReadsWrongFalsely : Prop := eidReadsRow.holds Try.pinned (OpenSpec.ofChange eidReadsWrong)

/-- 'dromondlaw21.PolicyFirst': WHATEVER THE INPUT: true; the input reads as it did. -/
def policyFirstSpec : ChangeSpec := { name := "policyFirst", fn := fun _ => fun
  | [d1, d2, d3] => { results := [.lit (.bool true)], args := [d1, d2, d3] }
  | _ => none }
def policyFirstRow : OpenClaim := { program := "ythoickghfjgmmaa", sum := "ae6c37c74e2cc9020da914baae5a35d7b85f8943354b176ab3119ab8c2bb32e3", func := "dromond/dromondlaw21.PolicyFirst", spec := "policyFirst", unfollowed := true, recurses := true, apart := false }
def PolicyFirstSaid : Prop := policyFirstRow.holds Try.pinned (OpenSpec.ofChange policyFirstSpec)

/-- ITS FALSE NEIGHBOUR: 'it returns false'. Refute it at one input. -/
def policyFirstWrong : ChangeSpec := { name := "policyFirst", fn := fun _ => fun
  | [d1, d2, d3] => { results := [.lit (.bool false)], args := [d1, d2, d3] }
  | _ => none }
def PolicyFirstWrongFalsely : Prop := policyFirstRow.holds Try.pinned (OpenSpec.ofChange policyFirstWrong)

/-- 'dromondlaw21.PolicyPicks': WHATEVER THE INPUT: true; the input reads as it did. -/
def policyPicksSpec : ChangeSpec := { name := "policyPicks", fn := fun _ => fun
  | [d1, d2, d3] => { results := [.lit (.bool true)], args := [d1, d2, d3] }
  | _ => none }
def policyPicksRow : OpenClaim := { program := "ythoickghfjgmmaa", sum := "ae6c37c74e2cc9020da914baae5a35d7b85f8943354b176ab3119ab8c2bb32e3", func := "dromond/dromondlaw21.PolicyPicks", spec := "policyPicks", unfollowed := true, recurses := true, apart := false }
def PolicyPicksSaid : Prop := policyPicksRow.holds Try.pinned (OpenSpec.ofChange policyPicksSpec)

/-- ITS FALSE NEIGHBOUR: 'it returns false'. Refute it at one input. -/
def policyPicksWrong : ChangeSpec := { name := "policyPicks", fn := fun _ => fun
  | [d1, d2, d3] => { results := [.lit (.bool false)], args := [d1, d2, d3] }
  | _ => none }
def PolicyPicksWrongFalsely : Prop := policyPicksRow.holds Try.pinned (OpenSpec.ofChange policyPicksWrong)

/-- 'dromondlaw21.PolicyTargets': WHATEVER THE INPUT: true; the input reads as it did. -/
def policyTargetsSpec : ChangeSpec := { name := "policyTargets", fn := fun _ => fun
  | [d1, d2, d3] => { results := [.lit (.bool true)], args := [d1, d2, d3] }
  | _ => none }
def policyTargetsRow : OpenClaim := { program := "ythoickghfjgmmaa", sum := "ae6c37c74e2cc9020da914baae5a35d7b85f8943354b176ab3119ab8c2bb32e3", func := "dromond/dromondlaw21.PolicyTargets", spec := "policyTargets", unfollowed := true, recurses := true, apart := false }
def PolicyTargetsSaid : Prop := policyTargetsRow.holds Try.pinned (OpenSpec.ofChange policyTargetsSpec)

/-- ITS FALSE NEIGHBOUR: 'it returns false'. Refute it at one input. -/
def policyTargetsWrong : ChangeSpec := { name := "policyTargets", fn := fun _ => fun
  | [d1, d2, d3] => { results := [.lit (.bool false)], args := [d1, d2, d3] }
  | _ => none }
def PolicyTargetsWrongFalsely : Prop := policyTargetsRow.holds Try.pinned (OpenSpec.ofChange policyTargetsWrong)

/- THE SECOND FORM. 'bulk': how many values and letters a reading holds, each counted each time it is reached (what is shared counts as often as it is met; a slice's spare places count too). A statement '..UptoSaid' is the law's where the arguments, and the package variables that the reading takes, are together of bulk at most 1048576: NARROWER than '..Said'. Prove '..Said' where nothing that the law and all that it calls make is longer than what came in: it says more and counts as full. Else prove '..UptoSaid'. A law counts once. -/
mutual
def uptoBulk {H : Type} : DataW H → Nat
  | .lit (.string bytes) => bytes.length + 1
  | .lit _ => 1
  | .nil => 1
  | .ptr d => uptoBulk d + 1
  | .slice elems spare => uptoBulkAll elems + uptoBulkAll spare + 1
  | .agg parts => uptoBulkAll parts + 1
  | .iface _ d => uptoBulk d + 1
  | .map entries => uptoBulkEntries entries + 1
  | .held _ => 1
def uptoBulkAll {H : Type} : List (DataW H) → Nat
  | [] => 0
  | d :: r => uptoBulk d + uptoBulkAll r
def uptoBulkEntries {H : Type} : List (Lit × DataW H) → Nat
  | [] => 0
  | x :: r => uptoBulkEntry x + uptoBulkEntries r
def uptoBulkEntry {H : Type} : Lit × DataW H → Nat
  | (.string bytes, d) => bytes.length + uptoBulk d + 1
  | (_, d) => uptoBulk d + 1
 end
def uptoSmall : (H : Type) → List (DataW H) → Bool := fun _ ds => decide (uptoBulkAll ds ≤ 1048576)
def OpenSpec.upto (s : _root_.Go.ChangeSpec) : _root_.Go.OpenSpec := { _root_.Go.OpenSpec.ofChange s with cond := some uptoSmall }

/-- 'dromondlaw09.EngineSizes', WHERE WHAT IT READS IS OF BULK AT MOST 1048576: true; the input reads as it did. -/
def engineSizesUptoRow : OpenClaim := { program := "ythoickghfjgmmaa", sum := "ae6c37c74e2cc9020da914baae5a35d7b85f8943354b176ab3119ab8c2bb32e3", func := "dromond/dromondlaw09.EngineSizes", spec := "engineSizes", unfollowed := true, recurses := true, apart := false, narrowed := true }
def EngineSizesUptoSaid : Prop := engineSizesUptoRow.holds Try.pinned (OpenSpec.upto engineSizesSpec)

/-- 'dromondlaw10.EidNodes', WHERE WHAT IT READS IS OF BULK AT MOST 1048576: true; the input reads as it did. -/
def eidNodesUptoRow : OpenClaim := { program := "ythoickghfjgmmaa", sum := "ae6c37c74e2cc9020da914baae5a35d7b85f8943354b176ab3119ab8c2bb32e3", func := "dromond/dromondlaw10.EidNodes", spec := "eidNodes", apart := false, narrowed := true }
def EidNodesUptoSaid : Prop := eidNodesUptoRow.holds Try.pinned (OpenSpec.upto eidNodesSpec)

/-- 'dromondlaw10.EidMatches', WHERE WHAT IT READS IS OF BULK AT MOST 1048576: true; the input reads as it did. -/
def eidMatchesUptoRow : OpenClaim := { program := "ythoickghfjgmmaa", sum := "ae6c37c74e2cc9020da914baae5a35d7b85f8943354b176ab3119ab8c2bb32e3", func := "dromond/dromondlaw10.EidMatches", spec := "eidMatches", apart := false, narrowed := true }
def EidMatchesUptoSaid : Prop := eidMatchesUptoRow.holds Try.pinned (OpenSpec.upto eidMatchesSpec)

/-- 'dromondlaw05.ShaBits', WHERE WHAT IT READS IS OF BULK AT MOST 1048576: true; the input reads as it did. -/
def shaBitsUptoRow : OpenClaim := { program := "ythoickghfjgmmaa", sum := "ae6c37c74e2cc9020da914baae5a35d7b85f8943354b176ab3119ab8c2bb32e3", func := "dromond/dromondlaw05.ShaBits", spec := "shaBits", inPlace := ["math/bits.Add64"], unfollowed := true, recurses := true, apart := false, narrowed := true }
def ShaBitsUptoSaid : Prop := shaBitsUptoRow.holds Try.pinned (OpenSpec.upto shaBitsSpec)

/-- 'dromondlaw05.ShaRoots', WHERE WHAT IT READS IS OF BULK AT MOST 1048576: true; the input reads as it did. -/
def shaRootsUptoRow : OpenClaim := { program := "ythoickghfjgmmaa", sum := "ae6c37c74e2cc9020da914baae5a35d7b85f8943354b176ab3119ab8c2bb32e3", func := "dromond/dromondlaw05.ShaRoots", spec := "shaRoots", inPlace := ["math/bits.Add64"], unfollowed := true, recurses := true, apart := false, narrowed := true }
def ShaRootsUptoSaid : Prop := shaRootsUptoRow.holds Try.pinned (OpenSpec.upto shaRootsSpec)

/-- 'dromondlaw10.EidReads', WHERE WHAT IT READS IS OF BULK AT MOST 1048576: true; the input reads as it did. -/
def eidReadsUptoRow : OpenClaim := { program := "ythoickghfjgmmaa", sum := "ae6c37c74e2cc9020da914baae5a35d7b85f8943354b176ab3119ab8c2bb32e3", func := "dromond/dromondlaw10.EidReads", spec := "eidReads", recurses := true, loops := true, apart := false, narrowed := true }
def EidReadsUptoSaid : Prop := eidReadsUptoRow.holds Try.pinned (OpenSpec.upto eidReadsSpec)

/-- 'dromondlaw21.PolicyFirst', WHERE WHAT IT READS IS OF BULK AT MOST 1048576: true; the input reads as it did. -/
def policyFirstUptoRow : OpenClaim := { program := "ythoickghfjgmmaa", sum := "ae6c37c74e2cc9020da914baae5a35d7b85f8943354b176ab3119ab8c2bb32e3", func := "dromond/dromondlaw21.PolicyFirst", spec := "policyFirst", unfollowed := true, recurses := true, apart := false, narrowed := true }
def PolicyFirstUptoSaid : Prop := policyFirstUptoRow.holds Try.pinned (OpenSpec.upto policyFirstSpec)

/-- 'dromondlaw21.PolicyPicks', WHERE WHAT IT READS IS OF BULK AT MOST 1048576: true; the input reads as it did. -/
def policyPicksUptoRow : OpenClaim := { program := "ythoickghfjgmmaa", sum := "ae6c37c74e2cc9020da914baae5a35d7b85f8943354b176ab3119ab8c2bb32e3", func := "dromond/dromondlaw21.PolicyPicks", spec := "policyPicks", unfollowed := true, recurses := true, apart := false, narrowed := true }
def PolicyPicksUptoSaid : Prop := policyPicksUptoRow.holds Try.pinned (OpenSpec.upto policyPicksSpec)

/-- 'dromondlaw21.PolicyTargets', WHERE WHAT IT READS IS OF BULK AT MOST 1048576: true; the input reads as it did. -/
def policyTargetsUptoRow : OpenClaim := { program := "ythoickghfjgmmaa", sum := "ae6c37c74e2cc9020da914baae5a35d7b85f8943354b176ab3119ab8c2bb32e3", func := "dromond/dromondlaw21.PolicyTargets", spec := "policyTargets", unfollowed := true, recurses := true, apart := false, narrowed := true }
def PolicyTargetsUptoSaid : Prop := policyTargetsUptoRow.holds Try.pinned (OpenSpec.upto policyTargetsSpec)

end Rows
end Go.Proofs.Ythoickghfjgmmaa
