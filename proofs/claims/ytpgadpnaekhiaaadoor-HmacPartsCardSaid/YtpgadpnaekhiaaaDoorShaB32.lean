/-
  SHA-2's words of 32 bits: the walks of cut, table, begin.
  Conditions: the package's numbers lie in memory.
-/
import Derived.Test.YtpgadpnaekhiaaaDoorShaA32
import Derived.Test.YtpgadpnaekhiaaaDoorShaG
namespace Go.Proofs.YtpgadpnaekhiaaaDoor.Sha32
open Go.ChangeShapes Go.WideShapes Go.ChangeAt Go.RowKit Go.Deep Go.Proofs.YtpgadpnaekhiaaaDoor.Bw
open Go.Proofs.YtpgadpnaekhiaaaDoor.Sha (roundsL firstsL GlobAt zeros zeros_length made_zeros)
/-- A number's first bits. -/
def cutF (n : Nat) : Nat := n / 2 ^ (64 - 32)
theorem cutF_lt {n : Nat} (h : n < 18446744073709551616) : cutF n < 4294967296 := by
  unfold cutF
  omega
set_option maxRecDepth 100000 in
theorem cut_any (n : Nat) (w : World) (hn : n < 18446744073709551616) : Calls Tryd.prog 58 #[.int .u64 n, FV] w fun e w' => e = .returned (.int .u32 ((cutF n : Nat) : Int)) ∧ Below w.heap.size w w' := by
  have HC := Lib.hid (show cutF n = n / 2 ^ (64 - 32) from rfl)
  have hl := cutF_lt hn
  unfold FV
  go_enter Tryd.func58, Tryd.ntmps58
  go_wp2
  go_ret
  exact ⟨by rw [HC.out]; first | rfl | simp, by ((repeat' (with_reducible first | exact Below.refl _ _ | assumption | refine Below.drew ?_ | refine below_drewN ?_ _ | refine Below.setCell ?_ ?_ _ | refine Below.alloc ?_ ?_ _ | refine Below.ext ?_ ?_ _ | refine Below.trans ?_ (Below.mono ‹_› ?_))) <;> first | omega | (simp; done) | (simp; omega))⟩
theorem ldWord (W : World) (p : Addr) (v : Value) (h : W.cell? p = some v) : (Instr.loadAt 45 (.pointer (some p))).run Tryd.prog W = .ok v W := by
  go_simp
theorem stWord (W : World) (b i : Nat) (v : Int) (old : Value) (h : W.cell? ⟨b, i, none⟩ = some old) (hf : W.frozen? ⟨b, i, none⟩ = false) : (Instr.storeAt 54 (.pointer (some ⟨b, i, none⟩)) (.int .u32 v)).run Tryd.prog W = .ok () (W.setCell ⟨b, i, none⟩ (.int .u32 v)) := by
  go_simp
theorem runStore {P : Program} {o : Oper} {a : Act} {w w' : World} (t : TypeId) (x y : Operand) (ho : o.op = .store t x y) (vx vy : Value) (hx : a.eval x = vx) (hy : a.eval y = vy) (hrun : (Instr.storeAt t vx vy).run P w = .ok () w') :
    (execOp a.eval o).run P w = .ok .skip w' := by
  subst hx hy
  unfold execOp
  simp only [ho, Sem.run_bind, Sem.run_pure, hrun, Result.andThen_ok]
theorem wpH_skip {P : Program} {Q : Exit → Act → World → Prop} {o : Oper} {a : Act} {w w' : World} {K : Act → World → Prop} (hdst : o.dst = none) (hrun : (execOp a.eval o).run P w = .ok .skip w') (h : K a w') : o.wp P a w K Q := by
  unfold Oper.wp
  rw [hrun]
  show K (a.put o.dst undef) w'
  rw [hdst]
  exact h
theorem runAt {P : Program} {o : Oper} {a : Act} {w : World} (t : TypeId) (x y : Operand) (ho : o.op = .indexAddr t x y) (vx vy v : Value) (hx : a.eval x = vx) (hy : a.eval y = vy) (hrun : (Instr.indexAt t vx vy).run P w = .ok v w) :
    (execOp a.eval o).run P w = .ok (.value v) w := by
  subst hx hy
  unfold execOp
  simp only [ho, Sem.run_bind, Sem.run_pure, hrun, Result.andThen_ok]
theorem runLoad {P : Program} {o : Oper} {a : Act} {w : World} (t : TypeId) (x : Operand) (ho : o.op = .load t x) (vx v : Value) (hx : a.eval x = vx) (hrun : (Instr.loadAt t vx).run P w = .ok v w) :
    (execOp a.eval o).run P w = .ok (.value v) w := by
  subst hx
  unfold execOp
  simp only [ho, Sem.run_bind, Sem.run_pure, hrun, Result.andThen_ok]
/-- An index into a slice of words, and into the arrays. -/
theorem atRow (W : World) (b i n cap : Nat) (h : i < n) : (Instr.indexAt 80 (.slice (some ⟨b, 0, none⟩) n cap) (.int .i64 (i : Int))).run Tryd.prog W = .ok (.pointer (some ⟨b, i, none⟩)) W := by
  have hi : (i : Int) < (n : Int) := by omega
  go_simp
theorem atRounds (W : World) (b i : Nat) (h : i < 80) : (Instr.indexAt 65 (.pointer (some ⟨b, 0, none⟩)) (.int .i64 (i : Int))).run Tryd.prog W = .ok (.pointer (some ⟨b, i, none⟩)) W := by
  have hi : (i : Int) < 80 := by omega
  go_simp
theorem infoW : (Tryd.prog.info? 54).map (fun i => (i.zero, i.size, i.bytes)) = some (some (.int .u32 0), 1, 4) := by kernel_rfl
theorem rounds_lt (i : Nat) : roundsL.getD i 0 < 18446744073709551616 := by
  by_cases h : i < 80
  · exact (by decide +kernel : ∀ i, i < 80 → roundsL.getD i 0 < 18446744073709551616) i h
  · rw [List.getD, List.getElem?_eq_none (by show roundsL.length ≤ i; exact Nat.not_lt.1 h)]; decide
/-- The rounds' numbers, as words. -/
def tableL : List Nat := tab (fun i => cutF (roundsL.getD i 0)) 64
/-- What a region of table keeps. -/
def TabS (w W : World) (R : Nat) : Prop := Below w.heap.size w W ∧ W.heap[w.heap.size]? = some (.cells #[.int .i64 32, .int .i64 64, .int .i64 2, .int .i64 13, .int .i64 22, .int .i64 6, .int .i64 11, .int .i64 25, .int .i64 7, .int .i64 18, .int .i64 3, .int .i64 17, .int .i64 19, .int .i64 10] 75 (0, 0)) ∧ ∃ l, NumsAt W (w.heap.size + 1) 54 .u32 l ∧ l.length = R
theorem TabS.keep {w : World} {R : Nat} (W W1 : World) (h : TabS w W R) (hb : Below W.heap.size W W1) : TabS w W1 R := by
  obtain ⟨a, b, l, c, d⟩ := h
  exact ⟨a.trans (hb.mono a.size), below_heap hb (lt_of_heap b) b, l, c.below hb, d⟩
theorem runForm {o : Oper} {a : Act} {W : World} {b : Nat} (x : Operand) (ho : o.op = .load 75 x) (hx : a.eval x = .pointer (some ⟨b, 0, none⟩)) (h : W.heap[b]? = some (.cells #[.int .i64 32, .int .i64 64, .int .i64 2, .int .i64 13, .int .i64 22, .int .i64 6, .int .i64 11, .int .i64 25, .int .i64 7, .int .i64 18, .int .i64 3, .int .i64 17, .int .i64 19, .int .i64 10] 75 (0, 0))) : (execOp a.eval o).run Tryd.prog W = .ok (.value (.agg #[.int .i64 32, .int .i64 64, .int .i64 2, .int .i64 13, .int .i64 22, .int .i64 6, .int .i64 11, .int .i64 25, .int .i64 7, .int .i64 18, .int .i64 3, .int .i64 17, .int .i64 19, .int .i64 10])) W :=
  run_load_row 75 x ho b hx _ _ _ h _ Tryd.underlying75 rfl (by kernel_rfl)
set_option maxHeartbeats 800000 in
set_option maxRecDepth 100000 in
theorem table_any (w : World) (hg : GlobAt w) : Calls Tryd.prog 45 #[FV] w fun e w' => ∃ b, e = .returned (.slice (some ⟨b, 0, none⟩) 64 64) ∧ NumsAt w' b 54 .u32 tableL ∧ w.heap.size ≤ b ∧ Below w.heap.size w w' := by
  have HG := Lib.hid hg
  have HGL := hg.lt
  have HTL := Lib.hid (show tableL = tab (fun i => cutF (roundsL.getD i 0)) 64 from rfl)
  clear hg
  have hFV : FV = .agg #[.int .i64 32, .int .i64 64, .int .i64 2, .int .i64 13, .int .i64 22, .int .i64 6, .int .i64 11, .int .i64 25, .int .i64 7, .int .i64 18, .int .i64 3, .int .i64 17, .int .i64 19, .int .i64 10] := rfl
  have HCUT := Lib.hid fun n W hn => cut_any n W hn
  rw [hFV] at *
  go_enter Tryd.func45, Tryd.ntmps45
  have hmk : (Instr.makeSlice 80 (.int .i64 64) (.int .i64 64)).run Tryd.prog (w.alloc (.cells #[.int .i64 32, .int .i64 64, .int .i64 2, .int .i64 13, .int .i64 22, .int .i64 6, .int .i64 11, .int .i64 25, .int .i64 7, .int .i64 18, .int .i64 3, .int .i64 17, .int .i64 19, .int .i64 10] 75)) = .ok (.slice (some ⟨w.heap.size + 1, 0, none⟩) 64 64) ((w.alloc (.cells #[.int .i64 32, .int .i64 64, .int .i64 2, .int .i64 13, .int .i64 22, .int .i64 6, .int .i64 11, .int .i64 25, .int .i64 7, .int .i64 18, .int .i64 3, .int .i64 17, .int .i64 19, .int .i64 10] 75)).alloc (.cells (nums .u32 (zeros 64)) 54)) := by
    have h := run_make_row' (P := Tryd.prog) 80 54 (.int .u32 0) 4 Tryd.underlying80 infoW rfl .i64 .i64 64 (by omega) (by omega) (w.alloc (.cells #[.int .i64 32, .int .i64 64, .int .i64 2, .int .i64 13, .int .i64 22, .int .i64 6, .int .i64 11, .int .i64 25, .int .i64 7, .int .i64 18, .int .i64 3, .int .i64 17, .int .i64 19, .int .i64 10] 75))
    rw [made_zeros, show (w.alloc (.cells #[.int .i64 32, .int .i64 64, .int .i64 2, .int .i64 13, .int .i64 22, .int .i64 6, .int .i64 11, .int .i64 25, .int .i64 7, .int .i64 18, .int .i64 3, .int .i64 17, .int .i64 19, .int .i64 10] 75)).heap.size = w.heap.size + 1 by simp] at h
    exact h
  go_wp2
  have hform : ((w.alloc (.cells #[.int .i64 32, .int .i64 64, .int .i64 2, .int .i64 13, .int .i64 22, .int .i64 6, .int .i64 11, .int .i64 25, .int .i64 7, .int .i64 18, .int .i64 3, .int .i64 17, .int .i64 19, .int .i64 10] 75)).alloc (.cells (nums .u32 (zeros 64)) 54)).heap[w.heap.size]? = some (.cells #[.int .i64 32, .int .i64 64, .int .i64 2, .int .i64 13, .int .i64 22, .int .i64 6, .int .i64 11, .int .i64 25, .int .i64 7, .int .i64 18, .int .i64 3, .int .i64 17, .int .i64 19, .int .i64 10] 75 (0, 0)) := heap_under (heap_alloc_last w _)
  have hrow : NumsAt ((w.alloc (.cells #[.int .i64 32, .int .i64 64, .int .i64 2, .int .i64 13, .int .i64 22, .int .i64 6, .int .i64 11, .int .i64 25, .int .i64 7, .int .i64 18, .int .i64 3, .int .i64 17, .int .i64 19, .int .i64 10] 75)).alloc (.cells (nums .u32 (zeros 64)) 54)) (w.heap.size + 1) 54 .u32 (zeros 64) := heap_at (by simp)
  have hbel : Below w.heap.size w ((w.alloc (.cells #[.int .i64 32, .int .i64 64, .int .i64 2, .int .i64 13, .int .i64 22, .int .i64 6, .int .i64 11, .int .i64 25, .int .i64 7, .int .i64 18, .int .i64 3, .int .i64 17, .int .i64 19, .int .i64 10] 75)).alloc (.cells (nums .u32 (zeros 64)) 54)) := by ((repeat' (with_reducible first | exact Below.refl _ _ | assumption | refine Below.drew ?_ | refine below_drewN ?_ _ | refine Below.setCell ?_ ?_ _ | refine Below.alloc ?_ ?_ _ | refine Below.ext ?_ ?_ _ | refine Below.trans ?_ (Below.mono ‹_› ?_))) <;> first | omega | (simp; done) | (simp; omega))
  clear hmk
  generalize (w.alloc (.cells #[.int .i64 32, .int .i64 64, .int .i64 2, .int .i64 13, .int .i64 22, .int .i64 6, .int .i64 11, .int .i64 25, .int .i64 7, .int .i64 18, .int .i64 3, .int .i64 17, .int .i64 19, .int .i64 10] 75)).alloc (.cells (nums .u32 (zeros 64)) 54) = W1 at *
  go_loopw [10] (fun s10 wr => ∃ (i : Nat) (l : List Nat), i ≤ 64 ∧ s10 = .int .i64 i ∧ l = fillN (fun i => cutF (roundsL.getD i 0)) (zeros 64) i ∧ NumsAt wr (w.heap.size + 1) 54 .u32 l ∧ wr.heap[w.heap.size]? = some (.cells #[.int .i64 32, .int .i64 64, .int .i64 2, .int .i64 13, .int .i64 22, .int .i64 6, .int .i64 11, .int .i64 25, .int .i64 7, .int .i64 18, .int .i64 3, .int .i64 17, .int .i64 19, .int .i64 10] 75 (0, 0)) ∧ Below w.heap.size w wr) (fun s _ => 64 - (intOf s).toNat)
  case atStart => exact ⟨0, zeros 64, by omega, rfl, rfl, hrow, hform, hbel⟩
  case round =>
    clear hrow hform hbel W1
    obtain ⟨i, l, hi, rfl, hl, hrow, hform, hbel⟩ := hrel
    have hll : l.length = 64 := by rw [hl, fillN_length, zeros_length]
    have HL := Lib.hid hl
    clear hl
    by_cases hend : i = 64
    · have hlt : ¬ (i : Int) < 64 := by omega
      have hl0 : l = tableL := by rw [HL.out, hend, fillN_full _ (zeros_length 64), HTL.out]
      rw [hl0] at hrow
      clear hend hl0 HL hll
      go_wp2
      go_ret
      exact ⟨_, rfl, hrow, by omega, hbel⟩
    · have hlt : (i : Int) < 64 := by omega
      have hi2 : i < 64 := by omega
      go_upto_region 5 with fail
      have hS : TabS w wr.drew 64 := ⟨hbel.drew, hform, l, hrow.drew, hll⟩
      refine wp_region_held (S := fun W => TabS w W 64) (by kernel_rfl) ?_
      change wpAnyH _ _ _ _ _ _ _ _ wr.drew
      refine takeH 0 rfl rfl (some 13) rfl (.slice (some ⟨w.heap.size + 1, 0, none⟩) 64 64) (by kernel_rfl) (by kernel_rfl) (by kernel_rfl) (fun _ _ _ h => h) (fun _ _ => rfl) hS ?_
      simp only [Act.put, List.setIfInBounds_toArray, List.set_cons_zero, List.set_cons_succ]
      refine takeH 1 rfl rfl (some 14) rfl (.int .i64 (i : Int)) (by kernel_rfl) (by kernel_rfl) (by kernel_rfl) (fun _ _ _ h => h) (fun _ _ => rfl) hS ?_
      simp only [Act.put, List.setIfInBounds_toArray, List.set_cons_zero, List.set_cons_succ]
      refine takeH 2 rfl rfl (some 15) rfl (.int .i64 (i : Int)) (by kernel_rfl) (by kernel_rfl) (by kernel_rfl) (fun _ _ _ h => h) (fun _ _ => rfl) hS ?_
      simp only [Act.put, List.setIfInBounds_toArray, List.set_cons_zero, List.set_cons_succ]
      refine takeH 3 rfl rfl (some 16) rfl (.pointer (some ⟨1, i, none⟩)) (by kernel_rfl) (by kernel_rfl) (by kernel_rfl) (fun _ _ _ h => h) (fun w1 _ => runAt _ _ _ rfl _ _ _ rfl rfl (atRounds w1 _ i (by omega))) hS ?_
      simp only [Act.put, List.setIfInBounds_toArray, List.set_cons_zero, List.set_cons_succ]
      refine takeH 4 rfl rfl (some 17) rfl (.int .u64 ((roundsL.getD i 0 : Nat) : Int)) (by kernel_rfl) (by kernel_rfl) (by kernel_rfl) (fun _ _ _ h => h) (fun w1 h1 => runLoad _ _ rfl _ _ rfl (ldWord w1 _ _ ((HG.out.below h1.1).1 i (by omega)))) hS ?_
      simp only [Act.put, List.setIfInBounds_toArray, List.set_cons_zero, List.set_cons_succ]
      refine takeH 5 rfl rfl (some 18) rfl (.agg #[.int .i64 32, .int .i64 64, .int .i64 2, .int .i64 13, .int .i64 22, .int .i64 6, .int .i64 11, .int .i64 25, .int .i64 7, .int .i64 18, .int .i64 3, .int .i64 17, .int .i64 19, .int .i64 10]) (by kernel_rfl) (by kernel_rfl) (by kernel_rfl) (fun _ _ _ h => h) (fun w1 h1 => runForm _ rfl rfl h1.2.1) hS ?_
      simp only [Act.put, List.setIfInBounds_toArray, List.set_cons_zero, List.set_cons_succ]
      refine oneH 6 rfl rfl (by kernel_rfl) fun K hK => ?_
      refine wpH_call (some 19) rfl 58 #[.int .u64 ((roundsL.getD i 0 : Nat) : Int), .agg #[.int .i64 32, .int .i64 64, .int .i64 2, .int .i64 13, .int .i64 22, .int .i64 6, .int .i64 11, .int .i64 25, .int .i64 7, .int .i64 18, .int .i64 3, .int .i64 17, .int .i64 19, .int .i64 10]] (by kernel_rfl) _ _ (HCUT.out _ wr.drew (rounds_lt i)) fun Wc1 hWc1 => ?_
      simp only [Act.put, List.setIfInBounds_toArray, List.set_cons_zero, List.set_cons_succ]
      have hSc1 := TabS.keep wr.drew Wc1 hS hWc1
      refine hK _ _ hSc1 fun _ => ?_
      clear hK K
      refine takeH 7 rfl rfl (some 20) rfl (.pointer (some ⟨w.heap.size + 1, i, none⟩)) (by kernel_rfl) (by kernel_rfl) (by kernel_rfl) (fun _ _ _ h => h) (fun w1 _ => runAt _ _ _ rfl _ _ _ rfl rfl (atRow w1 _ i _ _ hi2)) hSc1 ?_
      simp only [Act.put, List.setIfInBounds_toArray, List.set_cons_zero, List.set_cons_succ]
      have hrow1 := hrow.drew.below hWc1
      have hcl := hrow1.cell i (by omega)
      have hfz := hrow1.frozen i
      have hS2 : TabS w (Wc1.setCell ⟨w.heap.size + 1, i, none⟩ (.int .u32 ((cutF (roundsL.getD i 0) : Nat) : Int))) 64 := ⟨Below.setCell hSc1.1 (by show w.heap.size ≤ w.heap.size + 1; omega) _, by rw [setCell_block _ _ _ _ _ (by show ¬ w.heap.size + 1 = w.heap.size; omega)]; exact hSc1.2.1, _, hrow1.set i _, by rw [List.length_set]; exact hll⟩
      refine oneH 8 rfl rfl (by kernel_rfl) fun K hK => ?_
      refine wpH_skip (w' := Wc1.setCell ⟨w.heap.size + 1, i, none⟩ (.int .u32 ((cutF (roundsL.getD i 0) : Nat) : Int))) rfl (runStore _ _ _ rfl _ _ rfl rfl (stWord Wc1 _ i _ _ hcl hfz)) ?_
      refine hK _ _ hS2 fun _ => ?_
      clear hK K
      refine wpAnyH_done (by kernel_rfl) ?_ _
      have HB2 := Lib.hid hS2.1
      have HF2 := Lib.hid hS2.2.1
      have HR2 := Lib.hid (hrow1.set i (cutF (roundsL.getD i 0)))
      clear hS2 hcl hfz hrow1 hSc1 hWc1 hS hrow hform hbel
      generalize Wc1.setCell ⟨w.heap.size + 1, i, none⟩ (.int .u32 ((cutF (roundsL.getD i 0) : Nat) : Int)) = W9 at *
      go_wp2
      go_round
      case rel => exact ⟨i + 1, l.set i (cutF (roundsL.getD i 0)), by omega, by go_num, by rw [fillN, ← HL.out], HR2.out, HF2.out, HB2.out⟩
      case measure => simp [intOf]; omega
end Go.Proofs.YtpgadpnaekhiaaaDoor.Sha32
