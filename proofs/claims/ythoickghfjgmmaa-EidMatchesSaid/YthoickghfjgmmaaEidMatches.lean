/-
  EidMatches: of every pattern and every name, Match is the reference's.
  Conditions: none.
-/
import Derived.Test.YthoickghfjgmmaaRef10c
import Derived.Test.YthoickghfjgmmaaEidOpen
namespace Go.Proofs.Ythoickghfjgmmaa.EidMatches
open Go.ChangeShapes Go.WideShapes Go.ChangeAt Go.RowKit
set_option maxRecDepth 100000 in
theorem walk (W : World) (base : Nat) (args : Array Value) {H : Type} {enc : TypeId × Value → H} (ds : List (DataW H)) (ps : List MemPlace)
    (hval : ∀ (j : Nat) t v, Try.f5.params[j]? = some t → args[j]? = some v → Value.okWide Try.prog W .any base t v)
    (hA : DataW.TrodAll enc Try.prog W 0 (fun _ => true) true Try.f5.params.toList args.toList ds ps) (hlt : ∀ p ∈ ps, p.block < W.heap.size) :
    Calls Try.prog 5 args W fun e W' => e = .returned (.bool true) ∧ Below W.heap.size W W' := by
  rw [Try.params5] at hA hval
  obtain ⟨v0, v1, d0, d1, p0, p1, rfl, rfl, rfl, h0, h1⟩ := trodAll_two hA
  obtain ⟨k, ps, pl, pn, pv, rfl⟩ := Eid.open_pattern (hval 0 39 v0 rfl rfl) h0 (fun p hp => hlt p (by simp [hp]))
  obtain ⟨s, l, n, v, rfl⟩ := Eid.open_eid (hval 1 30 v1 rfl rfl) h1 (fun p hp => hlt p (by simp [hp]))
  exact Eid.EidMatches_any k ps pl pn pv s l n v W
set_option maxRecDepth 100000 in
theorem lifted (os : Os) (started : os.Started) (H : Type) (enc : TypeId × Value → H) :
    ReturnsInHanded {} Try.checked os 5 .any (Rows.eidMatchesSpec.pre6 enc Try.prog Try.f5 Rows.eidMatchesRow.domain false) (Rows.eidMatchesSpec.post enc Try.prog Try.f5 false true false false) :=
  law_lift (C := Try.checked) (tb := 4) (by kernel_rfl) started (by kernel_rfl) Try.func5
    (ChangeSpec.witness6 (enc := enc) (C := Try.checked) false ⟨#[], #[.agg #[.int .i64 0, .int .i64 0, .string ⟨#[]⟩, .int .u64 0, .int .u64 0], .agg #[.int .i64 0, .string ⟨#[]⟩, .int .u64 0, .int .u64 0]], []⟩ 8 (by kernel_rfl) (by kernel_rfl) (by kernel_rfl) (by kernel_rfl))
    (by kernel_rfl) (by kernel_rfl) rfl (by kernel_rfl) Try.underlying4 (fun ds h => by match ds, h with | [_, _], _ => exact ⟨rfl, rfl, rfl⟩)
    (fun W base args ds ps hval hA hlt => walk W base args ds ps hval hA hlt)
theorem over : Rows.eidMatchesRow.holds Try.pinned (OpenSpec.ofChange Rows.eidMatchesSpec) :=
  OpenClaim.holds_of_wide 5 Try.f5 rfl rfl rfl rfl rfl rfl rfl ⟨rfl, rfl, rfl, rfl, rfl⟩ rfl rfl rfl rfl rfl (by kernel_rfl) Try.func5 (by kernel_rfl)
    (of_decide_eq_true (by kernel_rfl)) (by unfold Func.isWrapper; rw [if_neg (of_decide_eq_false (by kernel_rfl))]; exact ⟨rfl, rfl⟩)
    (fun os started H enc _ => lifted os started H enc)
theorem proved : Rows.EidMatchesSaid := over
#print axioms proved
end Go.Proofs.Ythoickghfjgmmaa.EidMatches
