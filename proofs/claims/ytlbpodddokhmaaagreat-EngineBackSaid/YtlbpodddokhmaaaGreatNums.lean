/-
  A block that holds numbers: read, written, kept.
  Conditions: none.
-/
import Derived.Test.YtlbpodddokhmaaaGreatHeld
namespace Go.Proofs.YtlbpodddokhmaaaGreat
open Go.ChangeShapes Go.WideShapes Go.ChangeAt Go.RowKit Go.Deep
theorem lt_of_heap {w : World} {k : Nat} {x : Obj} (h : w.heap[k]? = some x) : k < w.heap.size := by
  rcases Nat.lt_or_ge k w.heap.size with h' | h'
  · exact h'
  · rw [Array.getElem?_eq_none h'] at h; cases h
theorem setCell_block (w : World) (b k o : Nat) (v : Value) (h : ¬ b = k) : (w.setCell ⟨b, o, none⟩ v).heap[k]? = w.heap[k]? := by
  show (w.heap.modify b _)[k]? = _
  rw [Array.getElem?_modify, if_neg h]
/-- The block b holds the numbers l. -/
def NumsAt (w : World) (b : Nat) (t : TypeId) (k : IntKind) (l : List Nat) : Prop := w.heap[b]? = some (.cells (nums k l) t (0, 0))
theorem NumsAt.lt {w : World} {b : Nat} {t : TypeId} {k : IntKind} {l : List Nat} (h : NumsAt w b t k l) : b < w.heap.size := lt_of_heap h
theorem NumsAt.cell {w : World} {b : Nat} {t : TypeId} {k : IntKind} {l : List Nat} (h : NumsAt w b t k l) (i : Nat) (hi : i < l.length) : w.cell? ⟨b, i, none⟩ = some (.int k ((l.getD i 0 : Nat) : Int)) := by
  rw [cell_of_row _ b i _ _ _ h, nums_getD k hi]
theorem NumsAt.cellv {w : World} {b : Nat} {t : TypeId} {k : IntKind} {l : List Nat} (h : NumsAt w b t k l) (i v : Nat) (hi : i < l.length) (hv : l.getD i 0 = v) : w.cell? ⟨b, i, none⟩ = some (.int k ((v : Nat) : Int)) := by
  rw [← hv]; exact h.cell i hi
theorem NumsAt.frozen {w : World} {b : Nat} {t : TypeId} {k : IntKind} {l : List Nat} (h : NumsAt w b t k l) (i : Nat) : w.frozen? ⟨b, i, none⟩ = false := frozen_of_row w b i _ t h
theorem NumsAt.set {w : World} {b : Nat} {t : TypeId} {k : IntKind} {l : List Nat} (h : NumsAt w b t k l) (i v : Nat) : NumsAt (w.setCell ⟨b, i, none⟩ (.int k ((v : Nat) : Int))) b t k (l.set i v) := by
  unfold NumsAt
  rw [Go.heap_setCell_same w b i _ t _ h, nums_set]
theorem NumsAt.other {w : World} {b : Nat} {t : TypeId} {k : IntKind} {l : List Nat} (h : NumsAt w b t k l) (c i : Nat) (v : Value) (hc : b ≠ c) : NumsAt (w.setCell ⟨c, i, none⟩ v) b t k l := by
  unfold NumsAt
  rw [Go.heap_setCell_other _ _ _ _ hc]; exact h
theorem NumsAt.drew {w : World} {b : Nat} {t : TypeId} {k : IntKind} {l : List Nat} (h : NumsAt w b t k l) : NumsAt w.drew b t k l := h
theorem NumsAt.below {w w' : World} {b : Nat} {t : TypeId} {k : IntKind} {l : List Nat} (h : NumsAt w b t k l) (hb : Below w.heap.size w w') : NumsAt w' b t k l := below_heap hb h.lt h
theorem NumsAt.ext {w : World} {b : Nat} {t : TypeId} {k : IntKind} {l : List Nat} (h : NumsAt w b t k l) (u : Xt) : NumsAt (ext w u) b t k l := heap_ext h
theorem NumsAt.alloc {w : World} {b : Nat} {t : TypeId} {k : IntKind} {l : List Nat} (h : NumsAt w b t k l) (o : Obj) : NumsAt (w.alloc o) b t k l := heap_under h
theorem NumsAt.new (w : World) (t : TypeId) (k : IntKind) (l : List Nat) : NumsAt (w.alloc (.cells (nums k l) t)) w.heap.size t k l := heap_alloc_last w _
theorem NumsAt.setRow {w : World} {b : Nat} {t : TypeId} {k : IntKind} {l : List Nat} (h : NumsAt w b t k l) (m : List Nat) : NumsAt (w.setRow b (nums k m)) b t k m := setRow_heap w b _ _ t _ h
theorem NumsAt.setRow_other {w : World} {b : Nat} {t : TypeId} {k : IntKind} {l : List Nat} (h : NumsAt w b t k l) (c : Nat) (cs : Array Value) (hc : b ≠ c) : NumsAt (w.setRow c cs) b t k l := by
  unfold NumsAt World.setRow
  simp only [Array.getElem?_modify]
  rw [if_neg (fun e => hc e.symm)]; exact h
theorem Below.setRow {B : Nat} {a w : World} (h : Below B a w) (b : Nat) (hb : B ≤ b) (cs : Array Value) : Below B a (w.setRow b cs) :=
  h.trans ⟨rfl, rfl, rfl, by simp, fun k hk => by
    unfold World.setRow
    simp only [Array.getElem?_modify]
    rw [if_neg (by omega)]⟩
/-- A contract that ends in 'Below', met so that the world behind it is any such. -/
theorem Calls.below {P : Program} {f : FuncId} {args : Array Value} {w : World} {v : Value} {R : Ending → World → Prop}
    (h : Calls P f args w fun e w' => e = .returned v ∧ Below w.heap.size w w') (hR : ∀ w', Below w.heap.size w w' → R (.returned v) w') : Calls P f args w R :=
  h.mono fun e w' ⟨he, hb⟩ => by
    subst he
    exact hR w' hb
end Go.Proofs.YtlbpodddokhmaaaGreat
