/-
  Right items: the walks of the reference's plain and Right, and of the program's right and Right; that they are one.
  Conditions: none.
-/
import Derived.Test.YtlbpodddokhmaaaDoorItm2
import Derived.Deep.CutRange
namespace Go.Proofs.YtlbpodddokhmaaaDoor.Itm
open Go.ChangeShapes Go.WideShapes Go.ChangeAt Go.RowKit
/-- Is an item, but for what it holds, what its kind may be? -/
def okN (k : Int) (n : Nat) (s : List UInt8) (len : Nat) (o : Bool) : Bool :=
  if k = 0 then decide (s = []) && decide (len = 0) && !o
  else if k = 2 ∨ k = 3 then decide (n = 0) && decide (len = 0) && !o
  else if k = 4 then decide (n = 0) && decide (s = []) && decide (len ≤ 1000)
  else false
theorem okN_true {k : Int} {n : Nat} {s : List UInt8} {len : Nat} {o : Bool} (h : okN k n s len o = true) :
    (k = 0 ∧ s = [] ∧ len = 0 ∧ o = false) ∨ (k = 2 ∧ n = 0 ∧ len = 0 ∧ o = false) ∨ (k = 3 ∧ n = 0 ∧ len = 0 ∧ o = false) ∨ (k = 4 ∧ n = 0 ∧ s = [] ∧ len ≤ 1000) := by
  unfold okN at h
  split at h
  · next h0 => simp at h; exact .inl ⟨h0, h.1.1, h.1.2, h.2⟩
  · split at h
    · next h0 h1 =>
      simp at h
      rcases h1 with h1 | h1
      · exact .inr (.inl ⟨h1, h.1.1, h.1.2, h.2⟩)
      · exact .inr (.inr (.inl ⟨h1, h.1.1, h.1.2, h.2⟩))
    · split at h
      · next h0 h1 h2 => simp at h; exact .inr (.inr (.inr ⟨h2, h.1.1, h.1.2, h.2⟩))
      · cases h
mutual
def plainB : Tr → Bool
  | .mk k n s l o => okN k n s l.length o && plainL l
def plainL : List Tr → Bool
  | [] => true
  | t :: ts => plainB t && plainL ts
end
theorem plainL_eq : ∀ l : List Tr, plainL l = l.all plainB
  | [] => by simp [plainL]
  | t :: ts => by rw [plainL, List.all_cons, plainL_eq ts]
theorem plainB_eq (t : Tr) : plainB t = (okN t.k t.n t.s t.l.length t.o && t.l.all plainB) := by
  obtain ⟨k, n, s, l, o⟩ := t
  rw [plainB, plainL_eq]
  rfl
def rightT : Nat → Tr → Bool
  | 0, _ => false
  | d + 1, t => okN t.k t.n t.s t.l.length t.o && t.l.all (rightT d)
theorem fold_lt {f : Tr → Nat} {b : Nat} : ∀ (l : List Tr) (n : Nat), l.foldl (fun n x => max n (f x)) n ≤ b ↔ n ≤ b ∧ ∀ x ∈ l, f x ≤ b
  | [], n => by simp
  | x :: l, n => by
    rw [List.foldl_cons, fold_lt l]
    simp only [List.mem_cons, forall_eq_or_imp]
    constructor
    · intro ⟨h1, h2⟩; exact ⟨by omega, by omega, h2⟩
    · intro ⟨h1, h2, h3⟩; exact ⟨by omega, h3⟩
theorem rightT_eq : ∀ d t, rightT d t = (decide (deepB (d + 1) t ≤ d) && plainB t)
  | 0, t => by
    have : ¬ deepB 1 t ≤ 0 := by unfold deepB; omega
    rw [decide_eq_false this]
    rfl
  | d + 1, t => by
    rw [plainB_eq t]
    have hd : deepB (d + 2) t ≤ d + 1 ↔ ∀ x ∈ t.l, deepB (d + 1) x ≤ d := by
      show t.l.foldl (fun n x => max n (deepB (d + 1) x)) 0 + 1 ≤ d + 1 ↔ _
      rw [Nat.add_le_add_iff_right, fold_lt]
      simp
    rw [Bool.eq_iff_iff]
    simp only [rightT, Bool.and_eq_true, List.all_eq_true, decide_eq_true_eq, hd]
    constructor
    · intro ⟨h1, h2⟩
      have h3 := fun x hx => by have := h2 x hx; rw [rightT_eq d x, Bool.and_eq_true, decide_eq_true_eq] at this; exact this
      exact ⟨fun x hx => (h3 x hx).1, h1, fun x hx => (h3 x hx).2⟩
    · intro ⟨h1, h2, h3⟩
      exact ⟨h2, fun x hx => by rw [rightT_eq d x, Bool.and_eq_true, decide_eq_true_eq]; exact ⟨h1 x hx, h3 x hx⟩⟩
theorem all_take {f : Tr → Bool} {l : List Tr} {i : Nat} {x : Tr} (h : l[i]? = some x) (ha : (l.take i).all f = true) : (f x = true → (l.take (i + 1)).all f = true) ∧ (f x = false → l.all f = false) := by
  constructor
  · intro hf
    rw [List.take_add_one, h, List.all_append, ha]
    simp [hf]
  · intro hf
    rw [List.all_eq_false]
    exact ⟨x, List.mem_of_getElem? h, by simp [hf]⟩
end Go.Proofs.YtlbpodddokhmaaaDoor.Itm
