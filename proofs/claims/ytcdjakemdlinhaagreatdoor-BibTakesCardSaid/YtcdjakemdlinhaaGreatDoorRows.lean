/-
  NARROWER THAN 'FOR EVERY INPUT', by the rows' own cells (each row's printed sentence says how): BcbBlind: laid · BibOnly: laid · BibTakes: laid · BibBack: laid · BcbBack: laid · BcbOnly: laid.
  DERIVED. THE GIVEN ROWS OF THIS SEAT. 6 by the template 'for every input the law returns true; each argument reads behind the call as it read before'; 0 by the template 'total and deterministic' (their statements: YtcdjakemdlinhaaGreatDoorTotals.lean).
  GIVEN WITH THE SEED: the statements are not yours to turn. If you find one false, say at which input.
  Laid BY PROGRAM, IN A SANDBOX (cutbox-rows.mjs): the forced cells as the released guide's own fill.sh prints them over the translation a5ee46f6c1b6a0b5… (all of the seat's roots in one cut). By AI agents, Wed Nov 11 2026. No macro, syntax, notation, axiom, sorry.
-/
import Derived.Test.YtcdjakemdlinhaaGreatDoorChecked
import GoSem.Claim
import GoSem.ClaimJoined
import GoSem.ClaimMapViews
import Derived.JoinedTies
import Derived.KernelRfl
namespace Go.Proofs.YtcdjakemdlinhaaGreatDoor
/- THE CELL 'sum', in the pinned program and in every row, IS THE sha256 OF THE DUMP (.gsa) THAT YtcdjakemdlinhaaGreatDoorProg.lean LOADS. Nothing in Lean hashes anything: it is a label: what it is worth is what the hold of that sum in a sandbox is worth. -/
noncomputable def Tryz.pinned : Pinned := { name := "ytcdjakemdlinhaagreatdoor", sum := "a5ee46f6c1b6a0b5d8aab9c3840d8791746bf5ae6a3db00c577b95cc13234ccc", checked := Tryz.checked }
namespace Rows
def none {H : Type} : Left H := { results := [], args := [] }

/- WHAT THE LISTED PACKAGE-LEVEL VARIABLES READ AS WHEN THE CALL BEGINS. Each datum BY PROGRAM (the guide's laid-datum.mjs) off the statement by which the dump's own 'gosem.cut.vars' lays the variable. In a bare row this is a premise. The card (YtcdjakemdlinhaaGreatDoorCards.lean) ties it to the program's text. -/
def laid_dromond_asb_errForm {H : Type} : DataW H := .iface "*errors.errorString" (.ptr (.agg [.lit (.string [102, 111, 114, 109])]))

/-- 'dromondlaw19.BcbBlind': WHATEVER THE INPUT: true; the input reads as it did. -/
def bcbBlindSpec : ChangeSpec := { name := "bcbBlind", fn := fun _ => fun
  | [d1, d2, d3] => { results := [.lit (.bool true)], args := [d1, d2, d3] }
  | _ => none }
def bcbBlindRow : OpenClaim := { program := "ytcdjakemdlinhaagreatdoor", sum := "a5ee46f6c1b6a0b5d8aab9c3840d8791746bf5ae6a3db00c577b95cc13234ccc", func := "dromond/dromondlaw19.BcbBlind", spec := "bcbBlind", inPlace := ["internal/abi.NoEscape", "internal/bytealg.MakeNoZero", "internal/reflectlite.TypeOf", "slices.overlaps[dromond/api.Block]"], unfollowed := true, recurses := true, named := ["dromond/asb.errForm"], plainKeys := false, apart := false, laid := [("dromond/asb.errForm", laid_dromond_asb_errForm)] }
def BcbBlindSaid : Prop := bcbBlindRow.holds Tryz.pinned (OpenSpec.ofChange bcbBlindSpec)

/-- ITS FALSE NEIGHBOUR: 'it returns false'. Refute it at one input. -/
def bcbBlindWrong : ChangeSpec := { name := "bcbBlind", fn := fun _ => fun
  | [d1, d2, d3] => { results := [.lit (.bool false)], args := [d1, d2, d3] }
  | _ => none }
def BcbBlindWrongFalsely : Prop := bcbBlindRow.holds Tryz.pinned (OpenSpec.ofChange bcbBlindWrong)

/-- 'dromondlaw18.BibOnly': WHATEVER THE INPUT: true; the input reads as it did. -/
def bibOnlySpec : ChangeSpec := { name := "bibOnly", fn := fun _ => fun
  | [d1, d2, d3] => { results := [.lit (.bool true)], args := [d1, d2, d3] }
  | _ => none }
def bibOnlyRow : OpenClaim := { program := "ytcdjakemdlinhaagreatdoor", sum := "a5ee46f6c1b6a0b5d8aab9c3840d8791746bf5ae6a3db00c577b95cc13234ccc", func := "dromond/dromondlaw18.BibOnly", spec := "bibOnly", inPlace := ["internal/abi.NoEscape", "internal/bytealg.MakeNoZero", "internal/reflectlite.TypeOf", "slices.overlaps[dromond/api.Block]"], unfollowed := true, recurses := true, named := ["dromond/asb.errForm"], plainKeys := false, apart := false, laid := [("dromond/asb.errForm", laid_dromond_asb_errForm)] }
def BibOnlySaid : Prop := bibOnlyRow.holds Tryz.pinned (OpenSpec.ofChange bibOnlySpec)

/-- ITS FALSE NEIGHBOUR: 'it returns false'. Refute it at one input. -/
def bibOnlyWrong : ChangeSpec := { name := "bibOnly", fn := fun _ => fun
  | [d1, d2, d3] => { results := [.lit (.bool false)], args := [d1, d2, d3] }
  | _ => none }
def BibOnlyWrongFalsely : Prop := bibOnlyRow.holds Tryz.pinned (OpenSpec.ofChange bibOnlyWrong)

/-- 'dromondlaw18.BibTakes': WHATEVER THE INPUT: true; the input reads as it did. -/
def bibTakesSpec : ChangeSpec := { name := "bibTakes", fn := fun _ => fun
  | [d1, d2] => { results := [.lit (.bool true)], args := [d1, d2] }
  | _ => none }
def bibTakesRow : OpenClaim := { program := "ytcdjakemdlinhaagreatdoor", sum := "a5ee46f6c1b6a0b5d8aab9c3840d8791746bf5ae6a3db00c577b95cc13234ccc", func := "dromond/dromondlaw18.BibTakes", spec := "bibTakes", inPlace := ["internal/abi.NoEscape", "internal/bytealg.MakeNoZero", "internal/reflectlite.TypeOf", "slices.overlaps[dromond/api.Block]"], unfollowed := true, recurses := true, named := ["dromond/asb.errForm"], plainKeys := false, apart := false, laid := [("dromond/asb.errForm", laid_dromond_asb_errForm)] }
def BibTakesSaid : Prop := bibTakesRow.holds Tryz.pinned (OpenSpec.ofChange bibTakesSpec)

/-- ITS FALSE NEIGHBOUR: 'it returns false'. Refute it at one input. -/
def bibTakesWrong : ChangeSpec := { name := "bibTakes", fn := fun _ => fun
  | [d1, d2] => { results := [.lit (.bool false)], args := [d1, d2] }
  | _ => none }
def BibTakesWrongFalsely : Prop := bibTakesRow.holds Tryz.pinned (OpenSpec.ofChange bibTakesWrong)

/-- 'dromondlaw18.BibBack': WHATEVER THE INPUT: true; the input reads as it did. -/
def bibBackSpec : ChangeSpec := { name := "bibBack", fn := fun _ => fun
  | [d1, d2] => { results := [.lit (.bool true)], args := [d1, d2] }
  | _ => none }
def bibBackRow : OpenClaim := { program := "ytcdjakemdlinhaagreatdoor", sum := "a5ee46f6c1b6a0b5d8aab9c3840d8791746bf5ae6a3db00c577b95cc13234ccc", func := "dromond/dromondlaw18.BibBack", spec := "bibBack", inPlace := ["internal/abi.NoEscape", "internal/bytealg.MakeNoZero", "internal/reflectlite.TypeOf", "slices.overlaps[dromond/api.Block]"], unfollowed := true, recurses := true, named := ["dromond/asb.errForm"], plainKeys := false, apart := false, laid := [("dromond/asb.errForm", laid_dromond_asb_errForm)] }
def BibBackSaid : Prop := bibBackRow.holds Tryz.pinned (OpenSpec.ofChange bibBackSpec)

/-- ITS FALSE NEIGHBOUR: 'it returns false'. Refute it at one input. -/
def bibBackWrong : ChangeSpec := { name := "bibBack", fn := fun _ => fun
  | [d1, d2] => { results := [.lit (.bool false)], args := [d1, d2] }
  | _ => none }
def BibBackWrongFalsely : Prop := bibBackRow.holds Tryz.pinned (OpenSpec.ofChange bibBackWrong)

/-- 'dromondlaw19.BcbBack': WHATEVER THE INPUT: true; the input reads as it did. -/
def bcbBackSpec : ChangeSpec := { name := "bcbBack", fn := fun _ => fun
  | [d1, d2] => { results := [.lit (.bool true)], args := [d1, d2] }
  | _ => none }
def bcbBackRow : OpenClaim := { program := "ytcdjakemdlinhaagreatdoor", sum := "a5ee46f6c1b6a0b5d8aab9c3840d8791746bf5ae6a3db00c577b95cc13234ccc", func := "dromond/dromondlaw19.BcbBack", spec := "bcbBack", inPlace := ["internal/abi.NoEscape", "internal/bytealg.MakeNoZero", "internal/reflectlite.TypeOf", "slices.overlaps[dromond/api.Block]"], unfollowed := true, recurses := true, named := ["dromond/asb.errForm"], plainKeys := false, apart := false, laid := [("dromond/asb.errForm", laid_dromond_asb_errForm)] }
def BcbBackSaid : Prop := bcbBackRow.holds Tryz.pinned (OpenSpec.ofChange bcbBackSpec)

/-- ITS FALSE NEIGHBOUR: 'it returns false'. Refute it at one input. -/
def bcbBackWrong : ChangeSpec := { name := "bcbBack", fn := fun _ => fun
  | [d1, d2] => { results := [.lit (.bool false)], args := [d1, d2] }
  | _ => none }
def BcbBackWrongFalsely : Prop := bcbBackRow.holds Tryz.pinned (OpenSpec.ofChange bcbBackWrong)

/-- 'dromondlaw19.BcbOnly': WHATEVER THE INPUT: true; the input reads as it did. -/
def bcbOnlySpec : ChangeSpec := { name := "bcbOnly", fn := fun _ => fun
  | [d1, d2, d3] => { results := [.lit (.bool true)], args := [d1, d2, d3] }
  | _ => none }
def bcbOnlyRow : OpenClaim := { program := "ytcdjakemdlinhaagreatdoor", sum := "a5ee46f6c1b6a0b5d8aab9c3840d8791746bf5ae6a3db00c577b95cc13234ccc", func := "dromond/dromondlaw19.BcbOnly", spec := "bcbOnly", inPlace := ["internal/abi.NoEscape", "internal/bytealg.MakeNoZero", "internal/reflectlite.TypeOf", "slices.overlaps[dromond/api.Block]"], unfollowed := true, recurses := true, named := ["dromond/asb.errForm"], plainKeys := false, apart := false, laid := [("dromond/asb.errForm", laid_dromond_asb_errForm)] }
def BcbOnlySaid : Prop := bcbOnlyRow.holds Tryz.pinned (OpenSpec.ofChange bcbOnlySpec)

/-- ITS FALSE NEIGHBOUR: 'it returns false'. Refute it at one input. -/
def bcbOnlyWrong : ChangeSpec := { name := "bcbOnly", fn := fun _ => fun
  | [d1, d2, d3] => { results := [.lit (.bool false)], args := [d1, d2, d3] }
  | _ => none }
def BcbOnlyWrongFalsely : Prop := bcbOnlyRow.holds Tryz.pinned (OpenSpec.ofChange bcbOnlyWrong)

/- THE SECOND FORM. 'bulk': how many values and letters a reading holds, each counted each time it is reached (what is shared counts as often as it is met; a slice's spare places count too). A statement '..UptoSaid' is the law's where the arguments, and the package variables that the reading takes, are together of bulk at most 1048576: NARROWER than '..Said'. Prove '..Said' where nothing that the law and all that it calls make is longer than what came in: it says more and counts as full. Else prove '..UptoSaid'. A law counts once. -/
mutual
def uptoBulk {H : Type} : DataW H → Nat
  | .lit (.string bytes) => bytes.length + 1
  | .lit _ => 1
  | .nil => 1
  | .ptr d => uptoBulk d + 1
  | .slice elems spare => uptoBulkAll elems + uptoBulkAll spare + 1
  | .agg parts => uptoBulkAll parts + 1
  | .iface _ d => uptoBulk d + 1
  | .map entries => uptoBulkEntries entries + 1
  | .held _ => 1
def uptoBulkAll {H : Type} : List (DataW H) → Nat
  | [] => 0
  | d :: r => uptoBulk d + uptoBulkAll r
def uptoBulkEntries {H : Type} : List (Lit × DataW H) → Nat
  | [] => 0
  | x :: r => uptoBulkEntry x + uptoBulkEntries r
def uptoBulkEntry {H : Type} : Lit × DataW H → Nat
  | (.string bytes, d) => bytes.length + uptoBulk d + 1
  | (_, d) => uptoBulk d + 1
 end
def uptoSmall : (H : Type) → List (DataW H) → Bool := fun _ ds => decide (uptoBulkAll ds ≤ 1048576)
def OpenSpec.upto (s : _root_.Go.ChangeSpec) : _root_.Go.OpenSpec := { _root_.Go.OpenSpec.ofChange s with cond := some uptoSmall }

/-- 'dromondlaw19.BcbBlind', WHERE WHAT IT READS IS OF BULK AT MOST 1048576: true; the input reads as it did. -/
def bcbBlindUptoRow : OpenClaim := { program := "ytcdjakemdlinhaagreatdoor", sum := "a5ee46f6c1b6a0b5d8aab9c3840d8791746bf5ae6a3db00c577b95cc13234ccc", func := "dromond/dromondlaw19.BcbBlind", spec := "bcbBlind", inPlace := ["internal/abi.NoEscape", "internal/bytealg.MakeNoZero", "internal/reflectlite.TypeOf", "slices.overlaps[dromond/api.Block]"], unfollowed := true, recurses := true, named := ["dromond/asb.errForm"], plainKeys := false, apart := false, laid := [("dromond/asb.errForm", laid_dromond_asb_errForm)], narrowed := true }
def BcbBlindUptoSaid : Prop := bcbBlindUptoRow.holds Tryz.pinned (OpenSpec.upto bcbBlindSpec)

/-- 'dromondlaw18.BibOnly', WHERE WHAT IT READS IS OF BULK AT MOST 1048576: true; the input reads as it did. -/
def bibOnlyUptoRow : OpenClaim := { program := "ytcdjakemdlinhaagreatdoor", sum := "a5ee46f6c1b6a0b5d8aab9c3840d8791746bf5ae6a3db00c577b95cc13234ccc", func := "dromond/dromondlaw18.BibOnly", spec := "bibOnly", inPlace := ["internal/abi.NoEscape", "internal/bytealg.MakeNoZero", "internal/reflectlite.TypeOf", "slices.overlaps[dromond/api.Block]"], unfollowed := true, recurses := true, named := ["dromond/asb.errForm"], plainKeys := false, apart := false, laid := [("dromond/asb.errForm", laid_dromond_asb_errForm)], narrowed := true }
def BibOnlyUptoSaid : Prop := bibOnlyUptoRow.holds Tryz.pinned (OpenSpec.upto bibOnlySpec)

/-- 'dromondlaw18.BibTakes', WHERE WHAT IT READS IS OF BULK AT MOST 1048576: true; the input reads as it did. -/
def bibTakesUptoRow : OpenClaim := { program := "ytcdjakemdlinhaagreatdoor", sum := "a5ee46f6c1b6a0b5d8aab9c3840d8791746bf5ae6a3db00c577b95cc13234ccc", func := "dromond/dromondlaw18.BibTakes", spec := "bibTakes", inPlace := ["internal/abi.NoEscape", "internal/bytealg.MakeNoZero", "internal/reflectlite.TypeOf", "slices.overlaps[dromond/api.Block]"], unfollowed := true, recurses := true, named := ["dromond/asb.errForm"], plainKeys := false, apart := false, laid := [("dromond/asb.errForm", laid_dromond_asb_errForm)], narrowed := true }
def BibTakesUptoSaid : Prop := bibTakesUptoRow.holds Tryz.pinned (OpenSpec.upto bibTakesSpec)

/-- 'dromondlaw18.BibBack', WHERE WHAT IT READS IS OF BULK AT MOST 1048576: true; the input reads as it did. -/
def bibBackUptoRow : OpenClaim := { program := "ytcdjakemdlinhaagreatdoor", sum := "a5ee46f6c1b6a0b5d8aab9c3840d8791746bf5ae6a3db00c577b95cc13234ccc", func := "dromond/dromondlaw18.BibBack", spec := "bibBack", inPlace := ["internal/abi.NoEscape", "internal/bytealg.MakeNoZero", "internal/reflectlite.TypeOf", "slices.overlaps[dromond/api.Block]"], unfollowed := true, recurses := true, named := ["dromond/asb.errForm"], plainKeys := false, apart := false, laid := [("dromond/asb.errForm", laid_dromond_asb_errForm)], narrowed := true }
def BibBackUptoSaid : Prop := bibBackUptoRow.holds Tryz.pinned (OpenSpec.upto bibBackSpec)

/-- 'dromondlaw19.BcbBack', WHERE WHAT IT READS IS OF BULK AT MOST 1048576: true; the input reads as it did. -/
def bcbBackUptoRow : OpenClaim := { program := "ytcdjakemdlinhaagreatdoor", sum := "a5ee46f6c1b6a0b5d8aab9c3840d8791746bf5ae6a3db00c577b95cc13234ccc", func := "dromond/dromondlaw19.BcbBack", spec := "bcbBack", inPlace := ["internal/abi.NoEscape", "internal/bytealg.MakeNoZero", "internal/reflectlite.TypeOf", "slices.overlaps[dromond/api.Block]"], unfollowed := true, recurses := true, named := ["dromond/asb.errForm"], plainKeys := false, apart := false, laid := [("dromond/asb.errForm", laid_dromond_asb_errForm)], narrowed := true }
def BcbBackUptoSaid : Prop := bcbBackUptoRow.holds Tryz.pinned (OpenSpec.upto bcbBackSpec)

/-- 'dromondlaw19.BcbOnly', WHERE WHAT IT READS IS OF BULK AT MOST 1048576: true; the input reads as it did. -/
def bcbOnlyUptoRow : OpenClaim := { program := "ytcdjakemdlinhaagreatdoor", sum := "a5ee46f6c1b6a0b5d8aab9c3840d8791746bf5ae6a3db00c577b95cc13234ccc", func := "dromond/dromondlaw19.BcbOnly", spec := "bcbOnly", inPlace := ["internal/abi.NoEscape", "internal/bytealg.MakeNoZero", "internal/reflectlite.TypeOf", "slices.overlaps[dromond/api.Block]"], unfollowed := true, recurses := true, named := ["dromond/asb.errForm"], plainKeys := false, apart := false, laid := [("dromond/asb.errForm", laid_dromond_asb_errForm)], narrowed := true }
def BcbOnlyUptoSaid : Prop := bcbOnlyUptoRow.holds Tryz.pinned (OpenSpec.upto bcbOnlySpec)

end Rows
end Go.Proofs.YtcdjakemdlinhaaGreatDoor
