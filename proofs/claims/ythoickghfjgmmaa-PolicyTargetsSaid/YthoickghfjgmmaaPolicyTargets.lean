/-
  PolicyTargets: of every list of rules, every bundle and every question, each choice is of the primary or of a block, in order, and its rule is of the role, the operation and the type.
  Conditions: none.
-/
import Derived.Test.YthoickghfjgmmaaPol10
namespace Go.Proofs.Ythoickghfjgmmaa.PolicyTargets
open Go.ChangeShapes Go.WideShapes Go.ChangeAt Go.RowKit
set_option maxRecDepth 100000 in
theorem walk (W : World) (base : Nat) (args : Array Value) {H : Type} {enc : TypeId × Value → H} (ds : List (DataW H)) (ps : List MemPlace)
    (hval : ∀ (j : Nat) t v, Try.f11.params[j]? = some t → args[j]? = some v → Value.okWide Try.prog W .any base t v)
    (hA : DataW.TrodAll enc Try.prog W 0 (fun _ => true) true Try.f11.params.toList args.toList ds ps) (hlt : ∀ p ∈ ps, p.block < W.heap.size) :
    Calls Try.prog 11 args W fun e W' => e = .returned (.bool true) ∧ Below W.heap.size W W' := by
  rw [Try.params11] at hA hval
  obtain ⟨v0, v1, v2, d0, d1, d2, p0, p1, p2, rfl, rfl, rfl, h0, h1, h2⟩ := trodAll_three hA
  obtain ⟨rs, hrs⟩ := Pol.open_rules (hval 0 56 v0 rfl rfl) h0 (fun p hp => hlt p (by simp [hp]))
  obtain ⟨p, bs, bv, rfl, hp, hbs⟩ := Pol.open_bundle (hval 1 62 v1 rfl rfl) h1 (fun p hp => hlt p (by simp [hp]))
  obtain ⟨cs, rfl, c0, _, rfl, l0, c1, _, rfl, l1, c2, _, rfl, l2, rfl⟩ := open_flat [3, 3, 3] (hval 2 64 v2 rfl rfl) h2 (fun p hp => hlt p (by simp [hp])) (by kernel_rfl) (by kernel_rfl) (by kernel_rfl)
  obtain ⟨x, rfl, _⟩ := l0.int Try.underlying3
  obtain ⟨y, rfl, _⟩ := l1.int Try.underlying3
  obtain ⟨z, rfl, _⟩ := l2.int Try.underlying3
  exact Pol.PolicyTargets_any v0 bv rs bs x y z p W hrs hbs hp
set_option maxRecDepth 100000 in
theorem lifted (os : Os) (started : os.Started) (H : Type) (enc : TypeId × Value → H) :
    ReturnsInHanded {} Try.checked os 11 .any (Rows.policyTargetsSpec.pre6 enc Try.prog Try.f11 Rows.policyTargetsRow.domain false) (Rows.policyTargetsSpec.post enc Try.prog Try.f11 false true false false) :=
  law_lift (C := Try.checked) (tb := 4) (by kernel_rfl) started (by kernel_rfl) Try.func11
    (ChangeSpec.witness6 (enc := enc) (C := Try.checked) false ⟨#[], #[.slice none 0 0, .agg #[.int .u64 0, .int .i64 0, .int .i64 0, .string ⟨#[]⟩, .int .u64 0, .int .u64 0, .int .i64 0, .string ⟨#[]⟩, .int .u64 0, .int .u64 0, .int .i64 0, .string ⟨#[]⟩, .int .u64 0, .int .u64 0, .int .u64 0, .int .u64 0, .int .u64 0, .int .u64 0, .int .u64 0, .slice none 0 0], .agg #[.int .i64 0, .int .i64 0, .int .i64 0]], []⟩ 8 (by kernel_rfl) (by kernel_rfl) (by kernel_rfl) (by kernel_rfl))
    (by kernel_rfl) (by kernel_rfl) rfl (by kernel_rfl) Try.underlying4 (fun ds h => by match ds, h with | [_, _, _], _ => exact ⟨rfl, rfl, rfl⟩)
    (fun W base args ds ps hval hA hlt => walk W base args ds ps hval hA hlt)
theorem over : Rows.policyTargetsRow.holds Try.pinned (OpenSpec.ofChange Rows.policyTargetsSpec) :=
  OpenClaim.holds_of_wide 11 Try.f11 rfl rfl rfl rfl rfl rfl rfl ⟨rfl, rfl, rfl, rfl, rfl⟩ rfl rfl rfl rfl rfl (by kernel_rfl) Try.func11 (by kernel_rfl)
    (of_decide_eq_true (by kernel_rfl)) (by unfold Func.isWrapper; rw [if_neg (of_decide_eq_false (by kernel_rfl))]; exact ⟨rfl, rfl⟩)
    (fun os started H enc _ => lifted os started H enc)
theorem proved : Rows.PolicyTargetsSaid := over
#print axioms proved
end Go.Proofs.Ythoickghfjgmmaa.PolicyTargets
