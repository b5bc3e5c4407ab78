/-
  A slice of structs that came in as an argument: the cells of each element.
  Conditions: none.
-/
import Derived.Test.YtlbpodddokhmaaaDoorOpen2
import Derived.Deep.Slices
namespace Go.Proofs.YtlbpodddokhmaaaDoor
open Go.ChangeShapes Go.WideShapes Go.ChangeAt Go.RowKit
/-- The elements as they came in: none, or a row of cells, k for each. -/
def RowsAt (w : World) (v : Value) (k : Nat) (css : List (List Value)) : Prop :=
  css.length ≤ maxLen ∧ ∃ a c, v = .slice a css.length c ∧ css.length ≤ c ∧ c ≤ maxLen ∧ (css = [] ∨ ∃ b o, a = some ⟨b, o, none⟩ ∧ b < w.heap.size ∧ ∀ (j : Nat) cs, css[j]? = some cs → ∀ (i : Nat) u, cs[i]? = some u → w.cell? ⟨b, o + (j * k + i), none⟩ = some u)
theorem addr_add {a : Addr} (hs : a.spot = none) (j : Nat) : a.add j = ⟨a.block, a.off + j, none⟩ := by
  unfold Addr.add
  split
  · next hj => subst hj; cases a; simp at hs; subst hs; rfl
  · rfl
theorem spot_none {w : World} {a : Addr} {v : Value} (h : w.cell? a = some v) : a.spot = none := by
  unfold World.cell? at h
  split at h
  · split at h
    · cases h
    · next hs => simpa using hs
  · cases h
theorem rows_of {P : Program} {w : World} {H : Type} {enc : TypeId × Value → H} {t e : TypeId} {v : Value} {x : DataW H × List MemPlace} {fuel : Nat} (us : List TypeId)
    (hf : DataW.trod enc P w 0 (fun _ => true) true fuel t [v] = some x) (hlt : ∀ p ∈ x.2, p.block < w.heap.size) (ht : P.underlying t = some (.slice e))
    (hus : (List.range us.length).map (leafAt P 9 e) = us.map some) (hlen : P.cellsOf e = us.length) (hpos : 0 < us.length) :
    ∃ css, RowsAt w v us.length css ∧ ∀ cs ∈ css, All2 (LeafOk enc P w) us cs := by
  rcases Deep.open_slice ht hf with ⟨hcs, hx⟩ | ⟨a, len, cap, m, n, D, Pl, hcs, _, hl, hm, hmm, hx, hel⟩
  · simp only [List.cons.injEq, and_true] at hcs
    subst hcs
    exact ⟨[], ⟨Nat.zero_le _, none, 0, rfl, Nat.le_refl _, Nat.zero_le _, .inl rfl⟩, fun cs h => by cases h⟩
  · simp only [List.cons.injEq, and_true] at hcs
    subst hcs
    rw [if_pos rfl] at hmm
    subst hmm
    obtain ⟨C, hC⟩ := Deep.choose_lt (α := List Value) (p := fun i cs => w.cells? 0 (a.add (i * P.cellsOf e)) (P.cellsOf e) = some cs ∧ DataW.trod enc P w 0 (fun _ => true) true n e cs = some (D i, Pl i)) hel
    have hL : ((List.range len).map C).length = len := by simp
    refine ⟨(List.range len).map C, ⟨by rw [hL]; omega, some a, m, by rw [hL], by rw [hL]; exact hl, hm, ?_⟩, ?_⟩
    · by_cases h0 : len = 0
      · left; subst h0; rfl
      · right
        obtain ⟨_, hl0, hc0⟩ := World.cells?_some (hC 0 (by omega)).1
        have hc00 := hc0 0 (by rw [hlen]; exact hpos)
        rw [List.getElem?_eq_getElem (by rw [hl0, hlen]; exact hpos)] at hc00
        have hca : w.cell? a = some (C 0)[0] := by simpa [Addr.add] using hc00
        have hsp := spot_none hca
        refine ⟨a.block, a.off, congrArg some (by have h9 := addr_add hsp 0; simpa [Addr.add] using h9), ?_, fun j cs hj i u hi => ?_⟩
        · have := World.block_lt_of_cell? w _ hc00
          simpa [Addr.add] using this
        · rw [List.getElem?_map, Option.map_eq_some_iff] at hj
          obtain ⟨j', hj', rfl⟩ := hj
          have hjl : j < len := by
            have := (List.getElem?_eq_some_iff.1 hj').1
            simpa using this
          rw [List.getElem?_eq_getElem (by simpa using hjl), List.getElem_range] at hj'
          obtain rfl : j = j' := Option.some.inj hj'
          obtain ⟨_, hl1, hc1⟩ := World.cells?_some (hC j (by omega)).1
          have hil : i < us.length := by
            have := (List.getElem?_eq_some_iff.1 hi).1
            omega
          have := hc1 i (by omega)
          rw [Deep.add_add, addr_add hsp, hlen, hi] at this
          exact this
    · intro cs hcs
      obtain ⟨i, hi, rfl⟩ := List.mem_map.1 hcs
      have hi' : i < len := List.mem_range.1 hi
      obtain ⟨h1, h2⟩ := hC i (by omega)
      refine leaves us h2 (fun p hp => hlt p ?_) hus ((World.cells?_some h1).2.1.trans hlen)
      have hps := congrArg Prod.snd hx
      simp only at hps
      rw [hps]
      exact List.mem_append_right _ (List.mem_flatMap.2 ⟨i, List.mem_range.2 (by omega), hp⟩)
theorem open_rows {P : Program} {w : World} {base : Nat} {H : Type} {enc : TypeId × Value → H} {t e : TypeId} {v : Value} {d : DataW H} {ps : List MemPlace} (us : List TypeId) (hv : Value.okWide P w .any base t v)
    (h : DataW.Trod enc P w 0 (fun _ => true) true t v d ps) (hlt : ∀ p ∈ ps, p.block < w.heap.size) (ht : P.underlying t = some (.slice e))
    (hus : (List.range us.length).map (leafAt P 9 e) = us.map some) (hlen : P.cellsOf e = us.length) (hpos : 0 < us.length) :
    ∃ css, RowsAt w v us.length css ∧ ∀ cs ∈ css, All2 (LeafOk enc P w) us cs := by
  obtain ⟨a0, len, cap, rfl⟩ := okWide_slice ht hv
  obtain ⟨fuel, hf⟩ := h
  have e1 : (Value.slice a0 len cap).cells = #[.slice a0 len cap] := rfl
  rw [e1] at hf
  exact rows_of us hf hlt ht hus hlen hpos
/-- Rows lie where they lay, behind a call that has only made new blocks. -/
theorem RowsAt.below {W w' : World} {v : Value} {k : Nat} {css : List (List Value)} {n : Nat} (h : RowsAt W v k css) (hb : Below n W w') (hn : W.heap.size ≤ n) : RowsAt w' v k css := by
  obtain ⟨hm, a, c, rfl, hl, hc, hx⟩ := h
  refine ⟨hm, a, c, rfl, hl, hc, ?_⟩
  rcases hx with hx | ⟨b, o, rfl, hbl, hx⟩
  · exact .inl hx
  · exact .inr ⟨b, o, rfl, Nat.lt_of_lt_of_le hbl hb.size, fun j cs hj i u hi => by rw [hb.cell (p := ⟨b, o + (j * k + i), none⟩) (Nat.lt_of_lt_of_le hbl hn)]; exact hx j cs hj i u hi⟩
end Go.Proofs.YtlbpodddokhmaaaDoor
