/-
  How names and patterns that came in are opened.
  Conditions: none.
-/
import Derived.Test.YtlbpodddokhmaaaDoorOpen
namespace Go.Proofs.YtlbpodddokhmaaaDoor.Eid
open Go.ChangeShapes Go.WideShapes Go.ChangeAt Go.RowKit
set_option maxRecDepth 100000 in
/-- A name that came in. -/
theorem open_eid {H : Type} {enc : TypeId × Value → H} {W : World} {base : Nat} {v0 : Value} {d0 : DataW H} {p0 : List MemPlace} (hv : Value.okWide Tryd.prog W .any base 25 v0)
    (hr : DataW.Trod enc Tryd.prog W 0 (fun _ => true) true 25 v0 d0 p0) (hlt : ∀ p ∈ p0, p.block < W.heap.size) :
    ∃ s l n v, v0 = .agg #[.int .i64 s, .string (B l), .int .u64 n, .int .u64 v] := by
  obtain ⟨cs, rfl, c0, _, rfl, h0, c1, _, rfl, h1, c2, _, rfl, h2, c3, _, rfl, h3, rfl⟩ := open_flat [3, 9, 23, 23] hv hr hlt (by kernel_rfl) (by kernel_rfl) (by kernel_rfl)
  obtain ⟨s, rfl, _⟩ := h0.int Tryd.underlying3
  obtain ⟨l, rfl, _⟩ := h1.str Tryd.underlying9
  obtain ⟨n, rfl, _⟩ := h2.int Tryd.underlying23
  obtain ⟨v, rfl, _⟩ := h3.int Tryd.underlying23
  exact ⟨s, l, n, v, rfl⟩
set_option maxRecDepth 100000 in
/-- A name that came in, its numbers as natural ones. -/
theorem open_eid_nat {H : Type} {enc : TypeId × Value → H} {W : World} {base : Nat} {v0 : Value} {d0 : DataW H} {p0 : List MemPlace} (hv : Value.okWide Tryd.prog W .any base 25 v0)
    (hr : DataW.Trod enc Tryd.prog W 0 (fun _ => true) true 25 v0 d0 p0) (hlt : ∀ p ∈ p0, p.block < W.heap.size) :
    ∃ (s : Int) (l : List UInt8) (n v : Nat), v0 = .agg #[.int .i64 s, .string (B l), .int .u64 n, .int .u64 v] ∧ n < 18446744073709551616 ∧ v < 18446744073709551616 := by
  obtain ⟨cs, rfl, c0, _, rfl, h0, c1, _, rfl, h1, c2, _, rfl, h2, c3, _, rfl, h3, rfl⟩ := open_flat [3, 9, 23, 23] hv hr hlt (by kernel_rfl) (by kernel_rfl) (by kernel_rfl)
  obtain ⟨s, rfl, _⟩ := h0.int Tryd.underlying3
  obtain ⟨l, rfl, _⟩ := h1.str Tryd.underlying9
  obtain ⟨n, rfl, hn⟩ := h2.int Tryd.underlying23
  obtain ⟨v, rfl, hvw⟩ := h3.int Tryd.underlying23
  have wf : ∀ {m : Int}, (Lit.int .u64 m).wf = true → 0 ≤ m ∧ m < 18446744073709551616 := fun {m} h => by
    simp [Lit.wf, IntKind.min, IntKind.max, IntKind.signed, IntKind.bits] at h
    omega
  obtain ⟨n0, n1⟩ := wf hn
  obtain ⟨v0, v1⟩ := wf hvw
  obtain ⟨n', rfl⟩ : ∃ k : Nat, n = (k : Int) := ⟨n.toNat, by omega⟩
  obtain ⟨v', rfl⟩ : ∃ k : Nat, v = (k : Int) := ⟨v.toNat, by omega⟩
  exact ⟨s, l, n', v', rfl, by omega, by omega⟩
end Go.Proofs.YtlbpodddokhmaaaDoor.Eid
