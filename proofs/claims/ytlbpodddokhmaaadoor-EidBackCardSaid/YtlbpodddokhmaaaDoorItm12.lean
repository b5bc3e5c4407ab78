/-
  How a list of names grows; the names that the reference tries; bytes tell items apart.
  Conditions: none.
-/
import Derived.Test.YtlbpodddokhmaaaDoorItm11
import Derived.Deep.AppendLies
namespace Go.Proofs.YtlbpodddokhmaaaDoor.Itm
open Go.ChangeShapes Go.WideShapes Go.ChangeAt Go.RowKit Go.Deep Go.Great Go.Proofs.YtlbpodddokhmaaaDoor.Eid
def nmCells (m : Nm) : List Value := [.int .i64 m.s, .string (B m.l), .int .u64 m.n, .int .u64 m.v]
def NmsAt (w : World) (base : Nat) (v : Value) (ms : List Nm) : Prop := w.ownsRow base 25 4 v ms.length (ms.flatMap nmCells)
theorem own_below {w w' : World} {base : Nat} {e : TypeId} {size : Nat} {v : Value} {n : Nat} {xs : List Value} (h : w.ownsRow base e size v n xs) (hb : Below w.heap.size w w') : w'.ownsRow base e size v n xs :=
  h.kept (row := Option.none) ⟨hb.os, hb.tape, hb.output, hb.size, fun k hk _ => hb.block k hk⟩ (by
    cases hv : v.ownBlock with
    | none => exact .inl rfl
    | some k => exact .inr (by simp))
theorem NmsAt.below {w w' : World} {base : Nat} {v : Value} {ms : List Nm} (h : NmsAt w base v ms) (hb : Below w.heap.size w w') : NmsAt w' base v ms := own_below h hb
def zeroE : Value := .agg #[.int .i64 0, .string ⟨#[]⟩, .int .u64 0, .int .u64 0]
set_option maxRecDepth 100000 in
theorem infoE2 : (Tryd.prog.info? 25).map (fun i => (i.zero, i.size, i.bytes)) = some (some zeroE, 4, 40) := by kernel_rfl
theorem below_grown {w0 w w' : World} {B0 : Nat} {row : Option Nat} (h : Below B0 w0 w) (hs : B0 ≤ w.heap.size) (hg : w.grownBy w' row) (hrow : ∀ k, row = some k → B0 ≤ k) : Below B0 w0 w' :=
  h.trans ⟨hg.os, hg.tape, hg.output, hg.size, fun k hk => hg.block k (by omega) (fun e => by have := hrow k e.symm; omega)⟩
theorem nms_len (ms : List Nm) : (ms.flatMap nmCells).length = ms.length * 4 := by
  induction ms with
  | nil => rfl
  | cons m ms ih => rw [List.flatMap_cons, List.length_append, ih, List.length_cons]; simp [nmCells]; omega
theorem nms_one {ms : List Nm} {u : Value} (h : u ∈ ms.flatMap nmCells) : u.oneCell' = true := by
  obtain ⟨m, _, hu⟩ := List.mem_flatMap.1 h
  simp only [nmCells, List.mem_cons, List.mem_nil_iff, or_false] at hu
  rcases hu with rfl | rfl | rfl | rfl <;> rfl
theorem stop_app {P : Program} {ops : Array Oper} {rest : List Oper} {o : Oper} {a : Act} {w : World} {Q : Exit → Act → World → Prop} (tp : TypeId) {x y : Operand} (_ : o.op = .call { callee := .builtin .append, args := #[x, y], argTypes := #[tp, tp] }) (h : RowKit.Hid (wpList P ops Q (o :: rest) a w)) : wpList P ops Q (o :: rest) a w := h.out
/-- The names that the reference tries. -/
def triesT (y : Tr) : List Nm := match y.l with
  | [p, q] => [Nm.none, ⟨1, y.s, 0, 0⟩, ⟨2, [], p.n, q.n⟩]
  | _ => [Nm.none, ⟨1, y.s, 0, 0⟩]
theorem tries_two {y : Tr} (h : ¬ y.l.length = 2) : triesT y = [Nm.none, ⟨1, y.s, 0, 0⟩] := by
  unfold triesT
  split
  · next p q hl => exact absurd (by rw [hl]; rfl) h
  · rfl
theorem tree_plain (m : Nm) : plainB m.tree = true := by
  unfold Nm.tree nameT twoT arrT numT
  split
  · rfl
  · split <;> rfl
theorem tries_len (y : Tr) : (triesT y).length ≤ 3 := by
  unfold triesT
  split <;> simp
theorem right_len {m : Nm} (h : m.right = true) : m.l.length ≤ 60 := by
  unfold Nm.right rightB at h
  split at h
  · rw [Bool.and_eq_true] at h
    by_cases hl : m.l.length ≤ 60
    · exact hl
    · have := namedB_long m.l (by omega)
      rw [this] at h
      cases h.2
  · split at h
    · rw [decide_eq_true_eq] at h
      rw [h.1]
      exact Nat.zero_le _
    · cases h
theorem right_scheme {m : Nm} (h : m.right = true) : m.s = 1 ∨ m.s = 2 := by
  unfold Nm.right rightB at h
  split at h
  · exact .inl (by omega)
  · split at h
    · exact .inr (by omega)
    · cases h
theorem tree_size {m : Nm} (h : m.right = true) : szT m.tree ≤ 200 := by
  have hl := right_len h
  unfold Nm.tree nameT twoT arrT numT
  split
  · simp [szT, szL]
  · split
    · simp [szT, szL]
    · simp [szT, szL]; omega
theorem readT_tree {m : Nm} (h : m.right = true) : readT m.tree = m := by
  obtain ⟨s, l, n, v⟩ := m
  unfold Nm.right rightB at h
  simp only at h
  split at h
  · next hs =>
    rw [Bool.and_eq_true, decide_eq_true_eq] at h
    obtain ⟨⟨hn, hv⟩, _⟩ := h
    obtain rfl : s = 1 := by omega
    obtain rfl : n = 0 := by omega
    obtain rfl : v = 0 := by omega
    by_cases hl : l = [110, 111, 110, 101]
    · subst hl; rfl
    · simp [Nm.tree, nameT, twoT, arrT, numT, hl, readT, Tr.k, Tr.l, readY, textOf, Tr.n, Tr.s]
  · split at h
    · next hs =>
      rw [decide_eq_true_eq] at h
      obtain ⟨rfl, _, _⟩ := h
      obtain rfl : s = 2 := by omega
      rfl
    · cases h
/-- What is a name's item is tried. -/
theorem mem_tries {t x y : Tr} (hl : t.l = [x, y]) {m : Nm} (h : m.right = true) (ht : t = m.tree) : m ∈ triesT y := by
  have hy : y = twoT m.s m.l m.n m.v := by
    subst ht
    simp only [Nm.tree, nameT, arrT, Tr.l, List.cons.injEq, and_true] at hl
    exact hl.2.symm
  obtain ⟨s, l, n, v⟩ := m
  unfold Nm.right rightB at h
  simp only at h hy
  split at h
  · next hs =>
    rw [Bool.and_eq_true, decide_eq_true_eq] at h
    obtain ⟨⟨hn, hv⟩, _⟩ := h
    obtain rfl : s = 1 := by omega
    obtain rfl : n = 0 := by omega
    obtain rfl : v = 0 := by omega
    subst hy
    by_cases hl : l = [110, 111, 110, 101]
    · subst hl; simp [triesT, twoT, numT, Tr.l, Nm.none]
    · simp [triesT, twoT, hl, Tr.l, Tr.s]
  · split at h
    · next hs =>
      rw [decide_eq_true_eq] at h
      obtain ⟨rfl, _, _⟩ := h
      obtain rfl : s = 2 := by omega
      subst hy
      simp [triesT, twoT, arrT, numT, Tr.l, Tr.n]
    · cases h
end Go.Proofs.YtlbpodddokhmaaaDoor.Itm
