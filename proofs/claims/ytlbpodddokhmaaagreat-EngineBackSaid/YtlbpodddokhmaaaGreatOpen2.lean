/-
  Arguments of one cell: strings, integers.
  Conditions: none.
-/
import Derived.Test.YtlbpodddokhmaaaGreatOpen
namespace Go.Proofs.YtlbpodddokhmaaaGreat
open Go.ChangeShapes Go.WideShapes Go.ChangeAt Go.RowKit
theorem cells_one {P : Program} {w : World} {base : Nat} {t : TypeId} {v : Value} (hv : Value.okWide P w .any base t v) (ht : P.underlying t = some .string ∨ (∃ k, P.underlying t = some (.int k)) ∨ P.underlying t = some .bool ∨ ∃ u, P.underlying t = some (.slice u)) : v.cells = #[v] := by
  cases v with
  | agg cs =>
    exfalso
    unfold Value.okWide at hv
    rcases ht with h | ⟨k, h⟩ | h | ⟨u, h⟩ <;> rw [h] at hv <;> simp [Cell.okWide, Cell.ok, h] at hv
  | _ => rfl
/-- A string that came in as an argument. -/
theorem open_str {P : Program} {w : World} {base : Nat} {H : Type} {enc : TypeId × Value → H} {t : TypeId} {v : Value} {d : DataW H} {ps : List MemPlace} (ht : P.underlying t = some .string) (hv : Value.okWide P w .any base t v)
    (h : DataW.Trod enc P w 0 (fun _ => true) true t v d ps) (hlt : ∀ p ∈ ps, p.block < w.heap.size) : ∃ l, v = .string (B l) ∧ l.length ≤ maxLen :=
  (open_leaf h hlt (cells_one hv (.inl ht))).str ht
theorem open_int {P : Program} {w : World} {base : Nat} {H : Type} {enc : TypeId × Value → H} {t : TypeId} {k : IntKind} {v : Value} {d : DataW H} {ps : List MemPlace} (ht : P.underlying t = some (.int k)) (hv : Value.okWide P w .any base t v)
    (h : DataW.Trod enc P w 0 (fun _ => true) true t v d ps) (hlt : ∀ p ∈ ps, p.block < w.heap.size) : ∃ n, v = .int k n ∧ (Lit.int k n).wf = true :=
  (open_leaf h hlt (cells_one hv (.inr (.inl ⟨_, ht⟩)))).int ht
end Go.Proofs.YtlbpodddokhmaaaGreat
