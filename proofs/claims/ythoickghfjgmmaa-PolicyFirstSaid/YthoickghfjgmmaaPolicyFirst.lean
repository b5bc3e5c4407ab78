/-
  PolicyFirst: rules behind one that fits, and rules of another role or operation wherever they stand, change no choice.
  Conditions: none.
-/
import Derived.Test.YthoickghfjgmmaaPol12
namespace Go.Proofs.Ythoickghfjgmmaa.PolicyFirst
open Go.ChangeShapes Go.WideShapes Go.ChangeAt Go.RowKit
set_option maxRecDepth 100000 in
theorem rules_leaf {H : Type} {enc : TypeId × Value → H} {W : World} {v : Value} (h : LeafOk enc Try.prog W 56 v) : ∃ rs, Pol.RulesAt W v rs := by
  obtain ⟨n, z, hz, hlt⟩ := h
  obtain ⟨css, hat, hall⟩ := rows_of Pol.ruleT hz hlt Try.underlying56 (by kernel_rfl) (by kernel_rfl) (by decide)
  obtain ⟨rs, rfl, hok⟩ := Pol.all_map fun cs hcs => Pol.rule_of (hall cs hcs)
  exact ⟨rs, hat, hok⟩
set_option maxRecDepth 100000 in
theorem walk (W : World) (base : Nat) (args : Array Value) {H : Type} {enc : TypeId × Value → H} (ds : List (DataW H)) (ps : List MemPlace)
    (hval : ∀ (j : Nat) t v, Try.f9.params[j]? = some t → args[j]? = some v → Value.okWide Try.prog W .any base t v)
    (hA : DataW.TrodAll enc Try.prog W 0 (fun _ => true) true Try.f9.params.toList args.toList ds ps) (hlt : ∀ p ∈ ps, p.block < W.heap.size) :
    Calls Try.prog 9 args W fun e W' => e = .returned (.bool true) ∧ Below W.heap.size W W' := by
  rw [Try.params9] at hA hval
  obtain ⟨v0, v1, v2, d0, d1, d2, p0, p1, p2, rfl, rfl, rfl, h0, h1, h2⟩ := trodAll_three hA
  obtain ⟨us, rfl, x0, _, rfl, k0, x1, _, rfl, k1, rfl⟩ := open_flat [56, 56] (hval 0 57 v0 rfl rfl) h0 (fun p hp => hlt p (by simp [hp])) (by kernel_rfl) (by kernel_rfl) (by kernel_rfl)
  obtain ⟨l0, hl0⟩ := rules_leaf k0
  obtain ⟨l1, hl1⟩ := rules_leaf k1
  obtain ⟨p, bs, bv, rfl, hp, hbs⟩ := Pol.open_bundle (hval 1 62 v1 rfl rfl) h1 (fun p hp => hlt p (by simp [hp]))
  obtain ⟨cs, rfl, c0, _, rfl, l2, c1, _, rfl, l3, c2, _, rfl, l4, rfl⟩ := open_flat [3, 3, 3] (hval 2 64 v2 rfl rfl) h2 (fun p hp => hlt p (by simp [hp])) (by kernel_rfl) (by kernel_rfl) (by kernel_rfl)
  obtain ⟨x, rfl, _⟩ := l2.int Try.underlying3
  obtain ⟨y, rfl, _⟩ := l3.int Try.underlying3
  obtain ⟨z, rfl, _⟩ := l4.int Try.underlying3
  exact Pol.PolicyFirst_any x0 x1 bv l0 l1 bs x y z p W hl0 hl1 hbs hp
set_option maxRecDepth 100000 in
theorem lifted (os : Os) (started : os.Started) (H : Type) (enc : TypeId × Value → H) :
    ReturnsInHanded {} Try.checked os 9 .any (Rows.policyFirstSpec.pre6 enc Try.prog Try.f9 Rows.policyFirstRow.domain false) (Rows.policyFirstSpec.post enc Try.prog Try.f9 false true false false) :=
  law_lift (C := Try.checked) (tb := 4) (by kernel_rfl) started (by kernel_rfl) Try.func9
    (ChangeSpec.witness6 (enc := enc) (C := Try.checked) false ⟨#[], #[.agg #[.slice none 0 0, .slice none 0 0], .agg #[.int .u64 0, .int .i64 0, .int .i64 0, .string ⟨#[]⟩, .int .u64 0, .int .u64 0, .int .i64 0, .string ⟨#[]⟩, .int .u64 0, .int .u64 0, .int .i64 0, .string ⟨#[]⟩, .int .u64 0, .int .u64 0, .int .u64 0, .int .u64 0, .int .u64 0, .int .u64 0, .int .u64 0, .slice none 0 0], .agg #[.int .i64 0, .int .i64 0, .int .i64 0]], []⟩ 8 (by kernel_rfl) (by kernel_rfl) (by kernel_rfl) (by kernel_rfl))
    (by kernel_rfl) (by kernel_rfl) rfl (by kernel_rfl) Try.underlying4 (fun ds h => by match ds, h with | [_, _, _], _ => exact ⟨rfl, rfl, rfl⟩)
    (fun W base args ds ps hval hA hlt => walk W base args ds ps hval hA hlt)
theorem over : Rows.policyFirstRow.holds Try.pinned (OpenSpec.ofChange Rows.policyFirstSpec) :=
  OpenClaim.holds_of_wide 9 Try.f9 rfl rfl rfl rfl rfl rfl rfl ⟨rfl, rfl, rfl, rfl, rfl⟩ rfl rfl rfl rfl rfl (by kernel_rfl) Try.func9 (by kernel_rfl)
    (of_decide_eq_true (by kernel_rfl)) (by unfold Func.isWrapper; rw [if_neg (of_decide_eq_false (by kernel_rfl))]; exact ⟨rfl, rfl⟩)
    (fun os started H enc _ => lifted os started H enc)
theorem proved : Rows.PolicyFirstSaid := over
#print axioms proved
end Go.Proofs.Ythoickghfjgmmaa.PolicyFirst
