/-
  How names and patterns that came in are opened.
  Conditions: none.
-/
import Derived.Test.YthoickghfjgmmaaOpen
namespace Go.Proofs.Ythoickghfjgmmaa.Eid
open Go.ChangeShapes Go.WideShapes Go.ChangeAt Go.RowKit
set_option maxRecDepth 100000 in
/-- A name that came in. -/
theorem open_eid {H : Type} {enc : TypeId × Value → H} {W : World} {base : Nat} {v0 : Value} {d0 : DataW H} {p0 : List MemPlace} (hv : Value.okWide Try.prog W .any base 30 v0)
    (hr : DataW.Trod enc Try.prog W 0 (fun _ => true) true 30 v0 d0 p0) (hlt : ∀ p ∈ p0, p.block < W.heap.size) :
    ∃ s l n v, v0 = .agg #[.int .i64 s, .string (B l), .int .u64 n, .int .u64 v] := by
  obtain ⟨cs, rfl, c0, _, rfl, h0, c1, _, rfl, h1, c2, _, rfl, h2, c3, _, rfl, h3, rfl⟩ := open_flat [3, 9, 28, 28] hv hr hlt (by kernel_rfl) (by kernel_rfl) (by kernel_rfl)
  obtain ⟨s, rfl, _⟩ := h0.int Try.underlying3
  obtain ⟨l, rfl, _⟩ := h1.str Try.underlying9
  obtain ⟨n, rfl, _⟩ := h2.int Try.underlying28
  obtain ⟨v, rfl, _⟩ := h3.int Try.underlying28
  exact ⟨s, l, n, v, rfl⟩
set_option maxRecDepth 100000 in
theorem open_pattern {H : Type} {enc : TypeId × Value → H} {W : World} {base : Nat} {v0 : Value} {d0 : DataW H} {p0 : List MemPlace} (hv : Value.okWide Try.prog W .any base 39 v0)
    (hr : DataW.Trod enc Try.prog W 0 (fun _ => true) true 39 v0 d0 p0) (hlt : ∀ p ∈ p0, p.block < W.heap.size) :
    ∃ k s l n v, v0 = .agg #[.int .i64 k, .int .i64 s, .string (B l), .int .u64 n, .int .u64 v] := by
  obtain ⟨cs, rfl, c4, _, rfl, h4, c0, _, rfl, h0, c1, _, rfl, h1, c2, _, rfl, h2, c3, _, rfl, h3, rfl⟩ := open_flat [3, 3, 9, 28, 28] hv hr hlt (by kernel_rfl) (by kernel_rfl) (by kernel_rfl)
  obtain ⟨k, rfl, _⟩ := h4.int Try.underlying3
  obtain ⟨s, rfl, _⟩ := h0.int Try.underlying3
  obtain ⟨l, rfl, _⟩ := h1.str Try.underlying9
  obtain ⟨n, rfl, _⟩ := h2.int Try.underlying28
  obtain ⟨v, rfl, _⟩ := h3.int Try.underlying28
  exact ⟨k, s, l, n, v, rfl⟩
end Go.Proofs.Ythoickghfjgmmaa.Eid
