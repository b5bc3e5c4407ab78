/-
  A slice of strings that came in as an argument.
  Conditions: none.
-/
import Derived.Test.YtlbpodddokhmaaaOpen2
import Derived.SliceStrings
namespace Go.Proofs.Ytlbpodddokhmaaa
open Go.ChangeShapes Go.WideShapes Go.ChangeAt Go.RowKit
/-- The parts as they came in: none, or a row of strings. -/
def PartsAt (w : World) (v : Value) (ss : List (List UInt8)) : Prop :=
  ∃ a c, v = .slice a ss.length c ∧ (ss = [] ∨ ∃ b o, a = some ⟨b, o, none⟩ ∧ b < w.heap.size ∧ ss.length ≤ c ∧ ∀ j s, ss[j]? = some s → w.cell? ⟨b, o + j, none⟩ = some (.string (B s)))
theorem open_parts {P : Program} {w : World} {base : Nat} {H : Type} {enc : TypeId × Value → H} {t e : TypeId} {v : Value} {d : DataW H} {ps : List MemPlace} (ht : P.underlying t = some (.slice e)) (he : P.underlying e = some .string) (hc : P.cellsOf e = 1) (hv : Value.okWide P w .any base t v)
    (h : DataW.Trod enc P w 0 (fun _ => true) true t v d ps) : ∃ ss, PartsAt w v ss := by
  obtain ⟨a0, len, cap, rfl⟩ := okWide_slice ht hv
  obtain ⟨fuel, hf⟩ := h
  rcases open_strings ht he hc hf with ⟨hcs, hx⟩ | ⟨a, len', cap', ss, hcs, _, hl, hm, hz, hx, hcell, hsz⟩
  · have e1 : (Value.slice a0 len cap).cells = #[.slice a0 len cap] := rfl
    rw [e1] at hcs
    simp only [List.cons.injEq, and_true, Value.slice.injEq] at hcs
    obtain ⟨rfl, rfl, rfl⟩ := hcs
    exact ⟨[], none, 0, rfl, .inl rfl⟩
  · have e1 : (Value.slice a0 len cap).cells = #[.slice a0 len cap] := rfl
    rw [e1] at hcs
    simp only [List.cons.injEq, and_true, Value.slice.injEq] at hcs
    obtain ⟨rfl, rfl, rfl⟩ := hcs
    rw [if_pos rfl] at hz
    have e2 : ((ss.take len).map fun s : ByteArray => s.data.toList).length = len := by rw [List.length_map, List.length_take]; omega
    refine ⟨(ss.take len).map fun s => s.data.toList, some a, cap, by rw [e2], ?_⟩
    by_cases h0 : len = 0
    · left; subst h0; simp
    · right
      have hc0 := hcell 0 (by omega)
      have hadd : ∀ j, a.add j = ⟨a.block, a.off + j, none⟩ := fun j => by
        have hs : a.spot = none := by
          have h1 : w.cell? a = some (.string (ss.getD 0 ByteArray.empty)) := by simpa [Addr.add] using hc0
          unfold World.cell? at h1
          split at h1
          · split at h1
            · cases h1
            · next hs => simpa using hs
          · cases h1
        unfold Addr.add
        split
        · next hj => subst hj; cases a; simp at hs; subst hs; rfl
        · rfl
      refine ⟨a.block, a.off, congrArg some (by have h9 := hadd 0; simpa [Addr.add] using h9), World.block_lt_of_cell? w (a.add 0) hc0, by rw [e2]; exact hl, fun j s hs => ?_⟩
      rw [List.getElem?_map, Option.map_eq_some_iff] at hs
      obtain ⟨u, hu, rfl⟩ := hs
      rw [List.getElem?_take] at hu
      split at hu
      · next hj =>
        rw [← hadd j, hcell j (by omega)]
        simp only [List.getD, hu, Option.getD_some]
        rfl
      · cases hu
end Go.Proofs.Ytlbpodddokhmaaa
