/-
  A world whose first blocks are blank: what is known there is kept by stores into these blocks.
  Conditions: none.
-/
import Derived.Test.YtlbpodddokhmaaaDoorRel
import Derived.Test.YtlbpodddokhmaaaDoorStp
namespace Go.Proofs.YtlbpodddokhmaaaDoor
open Go.ChangeShapes Go.WideShapes Go.ChangeAt Go.RowKit Go.Deep
def blank (n : Nat) (w : World) : World := { w with heap := w.heap.mapIdx fun k o => if k < n then .cells #[] 0 (0, 0) else o }
theorem blank_size (n : Nat) (w : World) : (blank n w).heap.size = w.heap.size := by simp [blank]
theorem blank_at {n : Nat} {w : World} {k : Nat} (h : n ≤ k) : (blank n w).heap[k]? = w.heap[k]? := by
  simp only [blank, Array.getElem?_mapIdx]
  rw [show (fun o => if k < n then Obj.cells #[] 0 (0, 0) else o) = id from funext fun o => by rw [if_neg (by omega)]; rfl]
  simp
theorem blank_under {n : Nat} {w : World} {k : Nat} (h : k < n) : (blank n w).heap[k]? = (w.heap[k]?).map fun _ => .cells #[] 0 (0, 0) := by
  simp only [blank, Array.getElem?_mapIdx]
  rw [show (fun o => if k < n then Obj.cells #[] 0 (0, 0) else o) = fun _ => .cells #[] 0 (0, 0) from funext fun o => by rw [if_pos h]]
theorem blank_ext {n : Nat} {w w' : World} (hs : w.heap.size = w'.heap.size) (ht : w.tape = w'.tape) (hd : w.drawn = w'.drawn) (ho : w.os = w'.os) (hp : w.output = w'.output) (h : ∀ k, n ≤ k → w.heap[k]? = w'.heap[k]?) : blank n w = blank n w' := by
  obtain ⟨h1, t1, d1, o1, p1⟩ := w
  obtain ⟨h2, t2, d2, o2, p2⟩ := w'
  simp only at hs ht hd ho hp h
  subst ht hd ho hp
  simp only [blank, World.mk.injEq, and_true]
  apply Array.ext_getElem?
  intro k
  by_cases hk : n ≤ k
  · have e1 := blank_at (w := ⟨h1, t1, d1, o1, p1⟩) hk
    have e2 := blank_at (w := ⟨h2, t1, d1, o1, p1⟩) hk
    exact e1.trans ((h k hk).trans e2.symm)
  · have e1 := blank_under (w := ⟨h1, t1, d1, o1, p1⟩) (show k < n by omega)
    have e2 := blank_under (w := ⟨h2, t1, d1, o1, p1⟩) (show k < n by omega)
    refine e1.trans (Eq.trans ?_ e2.symm)
    by_cases hk2 : k < h1.size
    · have hk3 : k < h2.size := by omega
      show Option.map _ h1[k]? = Option.map _ h2[k]?
      rw [Array.getElem?_eq_getElem hk2, Array.getElem?_eq_getElem hk3]; rfl
    · have hk3 : h2.size ≤ k := by omega
      show Option.map _ h1[k]? = Option.map _ h2[k]?
      rw [Array.getElem?_eq_none (by omega), Array.getElem?_eq_none hk3]
theorem blank_setRow {n : Nat} (w : World) {r : Nat} (c : Array Value) (h : r < n) : blank n (w.setRow r c) = blank n w :=
  blank_ext (by simp [World.setRow]) rfl rfl rfl rfl fun k hk => setRow_other _ _ _ _ (by omega)
theorem blank_below {n B : Nat} {w w' : World} (h : Below B w w') : Below B (blank n w) (blank n w') := by
  obtain ⟨h1, h2, h3, h4, h5⟩ := h
  refine ⟨h1, h2, h3, by rw [blank_size, blank_size]; exact h4, fun k hk => ?_⟩
  by_cases hn : n ≤ k
  · rw [blank_at hn, blank_at hn]; exact h5 k hk
  · rw [blank_under (by omega), blank_under (by omega), h5 k hk]
theorem blank_cell {n : Nat} {w : World} {a : Addr} {v : Value} (h : (blank n w).cell? a = some v) : w.cell? a = some v := by
  unfold World.cell? at h ⊢
  by_cases hn : n ≤ a.block
  · rw [blank_at hn] at h; exact h
  · exfalso
    rw [blank_under (by omega)] at h
    cases hw : w.heap[a.block]? with
    | none => rw [hw] at h; simp at h
    | some o => rw [hw] at h; simp at h
theorem blank_range {n : Nat} {w : World} {b o : Nat} {cs : List Value} (h : (blank n w).rangeAt b o cs) : w.rangeAt b o cs := fun j v hj => blank_cell (h j v hj)
theorem blank_alloc {n : Nat} {w : World} (o : Obj) (h : n ≤ w.heap.size) : blank n (w.alloc o) = (blank n w).alloc o := by
  have e : (blank n (w.alloc o)).heap = ((blank n w).alloc o).heap := by
    apply Array.ext_getElem?
    intro k
    have hp : ∀ (u : World), (u.alloc o).heap[k]? = if k = u.heap.size then some o else u.heap[k]? := fun u => by
      show (u.heap.push o)[k]? = _
      rw [Array.getElem?_push]
    by_cases hk : n ≤ k
    · rw [blank_at hk, hp, hp, blank_size, blank_at hk]
    · rw [blank_under (by omega), hp, hp, blank_size, if_neg (by omega), if_neg (by omega), blank_under (by omega)]
  have : ∀ (a b : World), a.heap = b.heap → a.tape = b.tape → a.drawn = b.drawn → a.os = b.os → a.output = b.output → a = b := by
    rintro ⟨⟩ ⟨⟩ h1 h2 h3 h4 h5
    simp only at h1 h2 h3 h4 h5
    subst h1 h2 h3 h4 h5
    rfl
  exact this _ _ e rfl rfl rfl rfl
end Go.Proofs.YtlbpodddokhmaaaDoor
