/-
  The reference of SHA-2: the walks of K and H.
  Conditions: none.
-/
import Derived.Test.YtpgadpnaekhiaaaDoorShaG
import Derived.Great.BuildSlice
import Derived.Great.Walk
import Derived.Deep.WholeRow
namespace Go.Proofs.YtpgadpnaekhiaaaDoor.Sha
open Go.ChangeShapes Go.WideShapes Go.ChangeAt Go.RowKit Go.Shelf Go.Deep
/-- A variable that is a whole array is made, and an array laid into it. -/
theorem keep_row {P : Program} {ops : Array Oper} {rest : List Oper} {o1 o2 : Oper} {a : Act} {w : World} {Q : Exit → Act → World → Prop} (g1 : o1.guard = none) (g2 : o2.guard = none)
    (d : Nat) (e1 : o1.dst = some d) (z c : Array Value) (t : TypeId) (x y : Operand)
    (hrun : (execOp a.eval o1).run P w = .ok (.value (.pointer (some ⟨w.heap.size, 0, none⟩))) (w.alloc (.cells z t)))
    (ho : o2.op = .store t x y) (e2 : o2.dst = none)
    (hx : (a.put (some d) (.pointer (some ⟨w.heap.size, 0, none⟩))).eval x = .pointer (some ⟨w.heap.size, 0, none⟩))
    (hy : (a.put (some d) (.pointer (some ⟨w.heap.size, 0, none⟩))).eval y = .agg c)
    (hi : (P.info? t).map (·.size) = some c.size) (hold : z.size = c.size) (h1 : c.all (·.oneCell') = true)
    (h : wpList P ops Q rest (a.put (some d) (.pointer (some ⟨w.heap.size, 0, none⟩))) (w.alloc (.cells c t))) : wpList P ops Q (o1 :: o2 :: rest) a w := by
  refine Go.Great.wpList_allocTo g1 (some d) e1 _ _ hrun ?_
  refine wpList_store_rowTo g2 t x y ho e2 w.heap.size c hx hy t z (heap_alloc_last w _) hi hold h1 ?_
  rw [World.setRow_alloc_new]
  exact h
def words (l : List Int) : Array Value := (l.map fun n => Value.int .u64 n).toArray
def k512 : List Int := roundsL.map fun n : Nat => (n : Int)
theorem words_rounds : words k512 = nums .u64 roundsL := by kernel_rfl
theorem zeros_u64 (n : Nat) : nums .u64 (zeros n) = Array.replicate n (.int .u64 0) := by
  simp [nums, zeros]
attribute [local irreducible] wpList in
set_option maxRecDepth 100000 in
theorem K_any (w : World) : Calls Tryd.prog 37 #[] w fun e w' => e = .returned (.agg (nums .u64 roundsL)) ∧ Below w.heap.size w w' := by
  go_enter Tryd.func37, Tryd.ntmps37
  apply wp_seq_k; intro K0 hK0
  apply wp_region_lit
  refine Go.Great.wpList_allocTo rfl (some 0) rfl (.pointer (some ⟨w.heap.size, 0, none⟩)) (.cells (nums .u64 (zeros 80)) 65) (by kernel_rfl) ?_
  refine wpList_frame (a' := { tmps := #[.pointer (some ⟨w.heap.size, 0, none⟩), undef], defers := [] }) (by kernel_rfl) ?_
  apply wpList_nil
  refine hK0 _ _ ?_
  clear hK0 K0
  apply wp_seq_k; intro K0 hK0
  apply wp_region_lit
  refine wpList_buildFlatArrTo rfl 65 45 80 _ rfl .u64 k512 (some 1) rfl (by kernel_rfl) (by kernel_rfl) (by kernel_rfl) (by kernel_rfl) ?_
  refine wpList_frame (a' := { tmps := #[.pointer (some ⟨w.heap.size, 0, none⟩), .agg (nums .u64 roundsL)], defers := [] }) (by kernel_rfl) ?_
  refine wpList_store_rowTo rfl 65 _ _ rfl rfl w.heap.size (nums .u64 roundsL) rfl rfl 65 (nums .u64 (zeros 80)) (heap_alloc_last w _) (by kernel_rfl) (by kernel_rfl) (by kernel_rfl) ?_
  apply wpList_nil
  refine hK0 _ _ ?_
  clear hK0 K0
  rw [World.setRow_alloc_new]
  refine wp_ret ?_
  exact bodyPost_ret (v := .agg (nums .u64 roundsL)) (results_cell_row rfl _ _ w.heap.size 65 (nums .u64 roundsL) (0, 0) (.array 80 45) rfl (heap_alloc_last w _) (by kernel_rfl) rfl (by kernel_rfl)) rfl ⟨rfl, by ((repeat' (with_reducible first | exact Below.refl _ _ | assumption | refine Below.drew ?_ | refine below_drewN ?_ _ | refine Below.setCell ?_ ?_ _ | refine Below.alloc ?_ ?_ _ | refine Below.ext ?_ ?_ _ | refine Below.trans ?_ (Below.mono ‹_› ?_))) <;> first | omega | (simp; done) | (simp; omega))⟩
/-- What is begun with, of 64 bits. -/
def wholeL (fr : Nat) : List Nat := tab (fun i => firstsL.getD (fr * 8 + i) 0) 8
set_option maxRecDepth 100000 in
theorem H_any (size fr : Nat) (w : World) (hs : (((size : Int) == 384) = true ∧ fr = 1) ∨ (((size : Int) == 384) = false ∧ fr = 0)) : Calls Tryd.prog 26 #[.int .i64 size] w fun e w' => e = .returned (.agg (nums .u64 (wholeL fr))) ∧ Below w.heap.size w w' := by
  rcases hs with ⟨hb, rfl⟩ | ⟨hb, rfl⟩
  all_goals
    go_enter Tryd.func26, Tryd.ntmps26
    go_wp2
    exact bodyPost_ret (v := .agg (nums .u64 (wholeL _))) (by simp [results, Tryd.results26, go_sem]; kernel_rfl) rfl ⟨rfl, by ((repeat' (with_reducible first | exact Below.refl _ _ | assumption | refine Below.drew ?_ | refine below_drewN ?_ _ | refine Below.setCell ?_ ?_ _ | refine Below.alloc ?_ ?_ _ | refine Below.ext ?_ ?_ _ | refine Below.trans ?_ (Below.mono ‹_› ?_))) <;> first | omega | (simp; done) | (simp; omega))⟩
end Go.Proofs.YtpgadpnaekhiaaaDoor.Sha
