/-
  No cell of these rows narrows 'for every input' (looked for: loops, veiled, ifaces, maps, wideKeys, modest, calm, conditions, laid).
  DERIVED. THE GIVEN ROWS OF THIS SEAT. 7 by the template 'for every input the law returns true; each argument reads behind the call as it read before'; 0 by the template 'total and deterministic' (their statements: YtnnoimikoddbcaaTotals.lean).
  GIVEN WITH THE SEED: the statements are not yours to turn. If you find one false, say at which input.
  Laid BY PROGRAM, IN A SANDBOX (cutbox-rows.mjs): the forced cells as the released guide's own fill.sh prints them over the translation 8a6985500cad8ba7… (all of the seat's roots in one cut). By AI agents, Wed Nov 11 2026. No macro, syntax, notation, axiom, sorry.
-/
import Derived.Test.YtnnoimikoddbcaaChecked
import GoSem.Claim
import GoSem.ClaimJoined
import GoSem.ClaimMapViews
import Derived.JoinedTies
import Derived.KernelRfl
namespace Go.Proofs.Ytnnoimikoddbcaa
/- THE CELL 'sum', in the pinned program and in every row, IS THE sha256 OF THE DUMP (.gsa) THAT YtnnoimikoddbcaaProg.lean LOADS. Nothing in Lean hashes anything: it is a label: what it is worth is what the hold of that sum in a sandbox is worth. -/
noncomputable def Try.pinned : Pinned := { name := "ytnnoimikoddbcaa", sum := "8a6985500cad8ba7a396caf3cfefc1538234d5bd887337fd845c59d29e619ddc", checked := Try.checked }
namespace Rows
def none {H : Type} : Left H := { results := [], args := [] }

/-- 'dromondlaw08.GcmTimes': WHATEVER THE INPUT: true; the input reads as it did. -/
def gcmTimesSpec : ChangeSpec := { name := "gcmTimes", fn := fun _ => fun
  | [d1, d2, d3] => { results := [.lit (.bool true)], args := [d1, d2, d3] }
  | _ => none }
def gcmTimesRow : OpenClaim := { program := "ytnnoimikoddbcaa", sum := "8a6985500cad8ba7a396caf3cfefc1538234d5bd887337fd845c59d29e619ddc", func := "dromond/dromondlaw08.GcmTimes", spec := "gcmTimes", inPlace := ["internal/abi.NoEscape", "internal/bytealg.MakeNoZero"], apart := false }
def GcmTimesSaid : Prop := gcmTimesRow.holds Try.pinned (OpenSpec.ofChange gcmTimesSpec)

/-- ITS FALSE NEIGHBOUR: 'it returns false'. Refute it at one input. -/
def gcmTimesWrong : ChangeSpec := { name := "gcmTimes", fn := fun _ => fun
  | [d1, d2, d3] => { results := [.lit (.bool false)], args := [d1, d2, d3] }
  | _ => none }
def GcmTimesWrongFalsely : Prop := gcmTimesRow.holds Try.pinned (OpenSpec.ofChange gcmTimesWrong)

/-- 'dromondlaw08.GcmField': WHATEVER THE INPUT: true; the input reads as it did. -/
def gcmFieldSpec : ChangeSpec := { name := "gcmField", fn := fun _ => fun
  | [d1, d2, d3] => { results := [.lit (.bool true)], args := [d1, d2, d3] }
  | _ => none }
def gcmFieldRow : OpenClaim := { program := "ytnnoimikoddbcaa", sum := "8a6985500cad8ba7a396caf3cfefc1538234d5bd887337fd845c59d29e619ddc", func := "dromond/dromondlaw08.GcmField", spec := "gcmField", inPlace := ["internal/abi.NoEscape", "internal/bytealg.MakeNoZero"], apart := false }
def GcmFieldSaid : Prop := gcmFieldRow.holds Try.pinned (OpenSpec.ofChange gcmFieldSpec)

/-- ITS FALSE NEIGHBOUR: 'it returns false'. Refute it at one input. -/
def gcmFieldWrong : ChangeSpec := { name := "gcmField", fn := fun _ => fun
  | [d1, d2, d3] => { results := [.lit (.bool false)], args := [d1, d2, d3] }
  | _ => none }
def GcmFieldWrongFalsely : Prop := gcmFieldRow.holds Try.pinned (OpenSpec.ofChange gcmFieldWrong)

/-- 'dromondlaw08.GcmHashes': WHATEVER THE INPUT: true; the input reads as it did. -/
def gcmHashesSpec : ChangeSpec := { name := "gcmHashes", fn := fun _ => fun
  | [d1, d2, d3] => { results := [.lit (.bool true)], args := [d1, d2, d3] }
  | _ => none }
def gcmHashesRow : OpenClaim := { program := "ytnnoimikoddbcaa", sum := "8a6985500cad8ba7a396caf3cfefc1538234d5bd887337fd845c59d29e619ddc", func := "dromond/dromondlaw08.GcmHashes", spec := "gcmHashes", inPlace := ["internal/abi.NoEscape", "internal/bytealg.MakeNoZero"], apart := false }
def GcmHashesSaid : Prop := gcmHashesRow.holds Try.pinned (OpenSpec.ofChange gcmHashesSpec)

/-- ITS FALSE NEIGHBOUR: 'it returns false'. Refute it at one input. -/
def gcmHashesWrong : ChangeSpec := { name := "gcmHashes", fn := fun _ => fun
  | [d1, d2, d3] => { results := [.lit (.bool false)], args := [d1, d2, d3] }
  | _ => none }
def GcmHashesWrongFalsely : Prop := gcmHashesRow.holds Try.pinned (OpenSpec.ofChange gcmHashesWrong)

/-- 'dromondlaw08.GcmSeals': WHATEVER THE INPUT: true; the input reads as it did. -/
def gcmSealsSpec : ChangeSpec := { name := "gcmSeals", fn := fun _ => fun
  | [d] => { results := [.lit (.bool true)], args := [d] }
  | _ => none }
def gcmSealsRow : OpenClaim := { program := "ytnnoimikoddbcaa", sum := "8a6985500cad8ba7a396caf3cfefc1538234d5bd887337fd845c59d29e619ddc", func := "dromond/dromondlaw08.GcmSeals", spec := "gcmSeals", inPlace := ["internal/abi.NoEscape", "internal/bytealg.MakeNoZero"], apart := false }
def GcmSealsSaid : Prop := gcmSealsRow.holds Try.pinned (OpenSpec.ofChange gcmSealsSpec)

/-- ITS FALSE NEIGHBOUR: 'it returns false'. Refute it at one input. -/
def gcmSealsWrong : ChangeSpec := { name := "gcmSeals", fn := fun _ => fun
  | [d] => { results := [.lit (.bool false)], args := [d] }
  | _ => none }
def GcmSealsWrongFalsely : Prop := gcmSealsRow.holds Try.pinned (OpenSpec.ofChange gcmSealsWrong)

/-- 'dromondlaw08.GcmStreams': WHATEVER THE INPUT: true; the input reads as it did. -/
def gcmStreamsSpec : ChangeSpec := { name := "gcmStreams", fn := fun _ => fun
  | [d1, d2, d3] => { results := [.lit (.bool true)], args := [d1, d2, d3] }
  | _ => none }
def gcmStreamsRow : OpenClaim := { program := "ytnnoimikoddbcaa", sum := "8a6985500cad8ba7a396caf3cfefc1538234d5bd887337fd845c59d29e619ddc", func := "dromond/dromondlaw08.GcmStreams", spec := "gcmStreams", inPlace := ["internal/abi.NoEscape", "internal/bytealg.MakeNoZero"], apart := false }
def GcmStreamsSaid : Prop := gcmStreamsRow.holds Try.pinned (OpenSpec.ofChange gcmStreamsSpec)

/-- ITS FALSE NEIGHBOUR: 'it returns false'. Refute it at one input. -/
def gcmStreamsWrong : ChangeSpec := { name := "gcmStreams", fn := fun _ => fun
  | [d1, d2, d3] => { results := [.lit (.bool false)], args := [d1, d2, d3] }
  | _ => none }
def GcmStreamsWrongFalsely : Prop := gcmStreamsRow.holds Try.pinned (OpenSpec.ofChange gcmStreamsWrong)

/-- 'dromondlaw08.GcmOpens': WHATEVER THE INPUT: true; the input reads as it did. -/
def gcmOpensSpec : ChangeSpec := { name := "gcmOpens", fn := fun _ => fun
  | [d1, d2, d3] => { results := [.lit (.bool true)], args := [d1, d2, d3] }
  | _ => none }
def gcmOpensRow : OpenClaim := { program := "ytnnoimikoddbcaa", sum := "8a6985500cad8ba7a396caf3cfefc1538234d5bd887337fd845c59d29e619ddc", func := "dromond/dromondlaw08.GcmOpens", spec := "gcmOpens", inPlace := ["internal/abi.NoEscape", "internal/bytealg.MakeNoZero"], apart := false }
def GcmOpensSaid : Prop := gcmOpensRow.holds Try.pinned (OpenSpec.ofChange gcmOpensSpec)

/-- ITS FALSE NEIGHBOUR: 'it returns false'. Refute it at one input. -/
def gcmOpensWrong : ChangeSpec := { name := "gcmOpens", fn := fun _ => fun
  | [d1, d2, d3] => { results := [.lit (.bool false)], args := [d1, d2, d3] }
  | _ => none }
def GcmOpensWrongFalsely : Prop := gcmOpensRow.holds Try.pinned (OpenSpec.ofChange gcmOpensWrong)

/-- 'dromondlaw08.GcmBent': WHATEVER THE INPUT: true; the input reads as it did. -/
def gcmBentSpec : ChangeSpec := { name := "gcmBent", fn := fun _ => fun
  | [d1, d2, d3] => { results := [.lit (.bool true)], args := [d1, d2, d3] }
  | _ => none }
def gcmBentRow : OpenClaim := { program := "ytnnoimikoddbcaa", sum := "8a6985500cad8ba7a396caf3cfefc1538234d5bd887337fd845c59d29e619ddc", func := "dromond/dromondlaw08.GcmBent", spec := "gcmBent", inPlace := ["internal/abi.NoEscape", "internal/bytealg.MakeNoZero"], apart := false }
def GcmBentSaid : Prop := gcmBentRow.holds Try.pinned (OpenSpec.ofChange gcmBentSpec)

/-- ITS FALSE NEIGHBOUR: 'it returns false'. Refute it at one input. -/
def gcmBentWrong : ChangeSpec := { name := "gcmBent", fn := fun _ => fun
  | [d1, d2, d3] => { results := [.lit (.bool false)], args := [d1, d2, d3] }
  | _ => none }
def GcmBentWrongFalsely : Prop := gcmBentRow.holds Try.pinned (OpenSpec.ofChange gcmBentWrong)

/- THE SECOND FORM. 'bulk': how many values and letters a reading holds, each counted each time it is reached (what is shared counts as often as it is met; a slice's spare places count too). A statement '..UptoSaid' is the law's where the arguments, and the package variables that the reading takes, are together of bulk at most 1048576: NARROWER than '..Said'. Prove '..Said' where nothing that the law and all that it calls make is longer than what came in: it says more and counts as full. Else prove '..UptoSaid'. A law counts once. -/
mutual
def uptoBulk {H : Type} : DataW H → Nat
  | .lit (.string bytes) => bytes.length + 1
  | .lit _ => 1
  | .nil => 1
  | .ptr d => uptoBulk d + 1
  | .slice elems spare => uptoBulkAll elems + uptoBulkAll spare + 1
  | .agg parts => uptoBulkAll parts + 1
  | .iface _ d => uptoBulk d + 1
  | .map entries => uptoBulkEntries entries + 1
  | .held _ => 1
def uptoBulkAll {H : Type} : List (DataW H) → Nat
  | [] => 0
  | d :: r => uptoBulk d + uptoBulkAll r
def uptoBulkEntries {H : Type} : List (Lit × DataW H) → Nat
  | [] => 0
  | x :: r => uptoBulkEntry x + uptoBulkEntries r
def uptoBulkEntry {H : Type} : Lit × DataW H → Nat
  | (.string bytes, d) => bytes.length + uptoBulk d + 1
  | (_, d) => uptoBulk d + 1
 end
def uptoSmall : (H : Type) → List (DataW H) → Bool := fun _ ds => decide (uptoBulkAll ds ≤ 1048576)
def OpenSpec.upto (s : _root_.Go.ChangeSpec) : _root_.Go.OpenSpec := { _root_.Go.OpenSpec.ofChange s with cond := some uptoSmall }

/-- 'dromondlaw08.GcmTimes', WHERE WHAT IT READS IS OF BULK AT MOST 1048576: true; the input reads as it did. -/
def gcmTimesUptoRow : OpenClaim := { program := "ytnnoimikoddbcaa", sum := "8a6985500cad8ba7a396caf3cfefc1538234d5bd887337fd845c59d29e619ddc", func := "dromond/dromondlaw08.GcmTimes", spec := "gcmTimes", inPlace := ["internal/abi.NoEscape", "internal/bytealg.MakeNoZero"], apart := false, narrowed := true }
def GcmTimesUptoSaid : Prop := gcmTimesUptoRow.holds Try.pinned (OpenSpec.upto gcmTimesSpec)

/-- 'dromondlaw08.GcmField', WHERE WHAT IT READS IS OF BULK AT MOST 1048576: true; the input reads as it did. -/
def gcmFieldUptoRow : OpenClaim := { program := "ytnnoimikoddbcaa", sum := "8a6985500cad8ba7a396caf3cfefc1538234d5bd887337fd845c59d29e619ddc", func := "dromond/dromondlaw08.GcmField", spec := "gcmField", inPlace := ["internal/abi.NoEscape", "internal/bytealg.MakeNoZero"], apart := false, narrowed := true }
def GcmFieldUptoSaid : Prop := gcmFieldUptoRow.holds Try.pinned (OpenSpec.upto gcmFieldSpec)

/-- 'dromondlaw08.GcmHashes', WHERE WHAT IT READS IS OF BULK AT MOST 1048576: true; the input reads as it did. -/
def gcmHashesUptoRow : OpenClaim := { program := "ytnnoimikoddbcaa", sum := "8a6985500cad8ba7a396caf3cfefc1538234d5bd887337fd845c59d29e619ddc", func := "dromond/dromondlaw08.GcmHashes", spec := "gcmHashes", inPlace := ["internal/abi.NoEscape", "internal/bytealg.MakeNoZero"], apart := false, narrowed := true }
def GcmHashesUptoSaid : Prop := gcmHashesUptoRow.holds Try.pinned (OpenSpec.upto gcmHashesSpec)

/-- 'dromondlaw08.GcmSeals', WHERE WHAT IT READS IS OF BULK AT MOST 1048576: true; the input reads as it did. -/
def gcmSealsUptoRow : OpenClaim := { program := "ytnnoimikoddbcaa", sum := "8a6985500cad8ba7a396caf3cfefc1538234d5bd887337fd845c59d29e619ddc", func := "dromond/dromondlaw08.GcmSeals", spec := "gcmSeals", inPlace := ["internal/abi.NoEscape", "internal/bytealg.MakeNoZero"], apart := false, narrowed := true }
def GcmSealsUptoSaid : Prop := gcmSealsUptoRow.holds Try.pinned (OpenSpec.upto gcmSealsSpec)

/-- 'dromondlaw08.GcmStreams', WHERE WHAT IT READS IS OF BULK AT MOST 1048576: true; the input reads as it did. -/
def gcmStreamsUptoRow : OpenClaim := { program := "ytnnoimikoddbcaa", sum := "8a6985500cad8ba7a396caf3cfefc1538234d5bd887337fd845c59d29e619ddc", func := "dromond/dromondlaw08.GcmStreams", spec := "gcmStreams", inPlace := ["internal/abi.NoEscape", "internal/bytealg.MakeNoZero"], apart := false, narrowed := true }
def GcmStreamsUptoSaid : Prop := gcmStreamsUptoRow.holds Try.pinned (OpenSpec.upto gcmStreamsSpec)

/-- 'dromondlaw08.GcmOpens', WHERE WHAT IT READS IS OF BULK AT MOST 1048576: true; the input reads as it did. -/
def gcmOpensUptoRow : OpenClaim := { program := "ytnnoimikoddbcaa", sum := "8a6985500cad8ba7a396caf3cfefc1538234d5bd887337fd845c59d29e619ddc", func := "dromond/dromondlaw08.GcmOpens", spec := "gcmOpens", inPlace := ["internal/abi.NoEscape", "internal/bytealg.MakeNoZero"], apart := false, narrowed := true }
def GcmOpensUptoSaid : Prop := gcmOpensUptoRow.holds Try.pinned (OpenSpec.upto gcmOpensSpec)

/-- 'dromondlaw08.GcmBent', WHERE WHAT IT READS IS OF BULK AT MOST 1048576: true; the input reads as it did. -/
def gcmBentUptoRow : OpenClaim := { program := "ytnnoimikoddbcaa", sum := "8a6985500cad8ba7a396caf3cfefc1538234d5bd887337fd845c59d29e619ddc", func := "dromond/dromondlaw08.GcmBent", spec := "gcmBent", inPlace := ["internal/abi.NoEscape", "internal/bytealg.MakeNoZero"], apart := false, narrowed := true }
def GcmBentUptoSaid : Prop := gcmBentUptoRow.holds Try.pinned (OpenSpec.upto gcmBentSpec)

end Rows
end Go.Proofs.Ytnnoimikoddbcaa
