/-
  policy.Right of the one rule that the laws of policy begin with: a region of 74 guarded operations that draws its order, one law for each.
  Conditions: none.
-/
import Derived.Test.YthoickghfjgmmaaPol7
import Derived.Test.YthoickghfjgmmaaHeld
namespace Go.Proofs.Ythoickghfjgmmaa.Pol
open Go.ChangeShapes Go.WideShapes Go.ChangeAt Go.RowKit Go.Deep Go.Great Go.Proofs.Ythoickghfjgmmaa.Eid
section
variable {P : Program} {ops : Array Oper} {Q : Exit → Act → World → Prop} {md : Region.Mode} {S : World → Prop}
/-- A quiet operation, taken first; it may be guarded. -/
theorem takeHg (i : Nat) {oi : Oper} {fuel : Nat} {listed : Array Bool} {a : Act} {w : World} (hi : ops[i]? = some oi) (dst : Option Tmp) (hdst : oi.dst = dst) (v : Value) (hwt : Region.wanted oi (yielded ops a.tmps) = true)
    (hs : Region.noSelect ops = true) (hf : Region.free md ops listed i = true) (hr : (Region.ready md ops listed).contains i = true)
    (hQ : ∀ c a w, Q (.panic c) (a.put dst v) w → Q (.panic c) a w) (hrun : ∀ w, S w → (execOp a.eval oi).run P w = .ok (.value v) w) (hS : S w)
    (h : wpAnyH P md ops Q S fuel (listed.setIfInBounds i true) (a.put dst v) w) : wpAnyH P md ops Q S (fuel + 1) listed a w := by
  subst hdst
  exact wpAnyH_take hi hs hf hr hQ (.inl ⟨hwt, hrun⟩) hS h
/-- One operation that alone may come up; it may be guarded. -/
theorem oneHg (i : Nat) {oi : Oper} {fuel : Nat} {listed : Array Bool} {a : Act} {w : World} (hi : ops[i]? = some oi) (hwt : Region.wanted oi (yielded ops a.tmps) = true) (hr : Region.ready md ops listed = [i])
    (h : ∀ K : Act → World → Prop, (∀ a' w', S w' → (S w' → wpAnyH P md ops Q S fuel (listed.setIfInBounds i true) a' w') → K a' w') → oi.wp P a w K Q) : wpAnyH P md ops Q S (fuel + 1) listed a w := by
  refine wpAnyH_ready hr (by simp) (AllReadyH.cons hi (fun K hK => ?_) AllReadyH.nil)
  rw [if_pos hwt]
  exact h K hK.out
/-- One operation that alone may come up, and that its guard leaves out. -/
theorem skipHg (i : Nat) {oi : Oper} {fuel : Nat} {listed : Array Bool} {a : Act} {w : World} (hi : ops[i]? = some oi) (dst : Option Tmp) (hdst : oi.dst = dst) (hwt : Region.wanted oi (yielded ops a.tmps) = false) (hr : Region.ready md ops listed = [i]) (hS : S w)
    (h : wpAnyH P md ops Q S fuel (listed.setIfInBounds i true) (a.put dst undef) w) : wpAnyH P md ops Q S (fuel + 1) listed a w := by
  subst hdst
  refine wpAnyH_ready hr (by simp) (AllReadyH.cons hi (fun K hK => ?_) AllReadyH.nil)
  rw [if_neg (by simp [hwt])]
  exact hK.out _ _ hS fun _ => h
end
theorem runLdInt {o : Oper} {a : Act} {w : World} (x : Operand) (ho : o.op = .load 3 x) (p : Addr) (hx : a.eval x = .pointer (some p)) (v : Value) (hc : w.cell? p = some v) : (execOp a.eval o).run Try.prog w = .ok (.value v) w := by
  unfold execOp
  simp only [ho, hx]
  go_simp
def patZ : List Value := [.int .i64 0, .int .i64 0, .string (B []), .int .u64 0, .int .u64 0]
theorem runLdPat {o : Oper} {a : Act} {w : World} (x : Operand) (ho : o.op = .load 39 x) (b f : Nat) (hx : a.eval x = .pointer (some ⟨b, f, none⟩)) (hc : w.rangeAt b f patZ) :
    (execOp a.eval o).run Try.prog w = .ok (.value (.agg #[.int .i64 0, .int .i64 0, .string (B []), .int .u64 0, .int .u64 0])) w := by
  unfold execOp
  simp only [ho, hx, Instr.loadAt, Instr.sureAddr, Sem.run_bind, Sem.run_pure, Result.andThen_ok, run_loadVar_mid w b f 39 patZ _ hc Try.underlying39 rfl (by kernel_rfl)]
  rfl
set_option maxRecDepth 100000 in
theorem Index_567 (w : World) (b : Nat) (hc : w.cell? ⟨b, 0, none⟩ = some (.int .i64 5)) : Calls Try.prog 92 #[.slice (some ⟨b, 0, none⟩) 3 3, .int .i64 5] w fun e w' => e = .returned (.int .i64 0) ∧ Below w.heap.size w w' := by
  go_enter Try.func92, Try.ntmps92
  go_wp2
  go_loop [8] (fun i => i = .int .i64 0) (fun _ => 0)
  case atStart => rfl
  case round =>
    subst hrel
    go_wp2
    go_ret
    exact ⟨rfl, by ((repeat' (with_reducible first | exact Below.refl _ _ | assumption | refine Below.drew ?_ | refine below_drewN ?_ _ | refine Below.setCell ?_ ?_ _ | refine Below.alloc ?_ ?_ _ | refine Below.ext ?_ ?_ _ | refine Below.trans ?_ (Below.mono ‹_› ?_))) <;> first | omega | (simp; done) | (simp; omega))⟩
theorem Contains_5 (w : World) (b : Nat) (hc : w.cell? ⟨b, 0, none⟩ = some (.int .i64 5)) : Calls Try.prog 85 #[.slice (some ⟨b, 0, none⟩) 3 3, .int .i64 5] w fun e w' => e = .returned (.bool true) ∧ Below w.heap.size w w' := by
  go_enter Try.func85, Try.ntmps85
  go_wp2_with fail
  refine Calls.ext (Index_567 w b hc) fun u => ?_
  go_wp2
  go_ret
  exact ⟨rfl, by ((repeat' (with_reducible first | exact Below.refl _ _ | assumption | refine Below.drew ?_ | refine below_drewN ?_ _ | refine Below.setCell ?_ ?_ _ | refine Below.alloc ?_ ?_ _ | refine Below.ext ?_ ?_ _ | refine Below.trans ?_ (Below.mono ‹_› ?_))) <;> first | omega | (simp; done) | (simp; omega))⟩
theorem variants_1 (w : World) : Calls Try.prog 86 #[.int .i64 1] w fun e w' => e = .returned (.slice (some ⟨w.heap.size, 0, none⟩) 3 3) ∧ w'.cell? ⟨w.heap.size, 0, none⟩ = some (.int .i64 5) ∧ Below w.heap.size w w' := by
  go_enter Try.func86, Try.ntmps86
  go_wp2
  go_ret
  exact ⟨rfl, by go_simp, by ((repeat' (with_reducible first | exact Below.refl _ _ | assumption | refine Below.drew ?_ | refine below_drewN ?_ _ | refine Below.setCell ?_ ?_ _ | refine Below.alloc ?_ ?_ _ | refine Below.ext ?_ ?_ _ | refine Below.trans ?_ (Below.mono ‹_› ?_))) <;> first | omega | (simp; done) | (simp; omega))⟩
theorem typed_11 (w : World) : Calls Try.prog 84 #[.int .i64 1, .int .i64 1] w fun e w' => e = .returned (.bool true) ∧ Below w.heap.size w w' := by
  go_enter Try.func84, Try.ntmps84
  go_wp2
  go_ret
  exact ⟨rfl, by ((repeat' (with_reducible first | exact Below.refl _ _ | assumption | refine Below.drew ?_ | refine below_drewN ?_ _ | refine Below.setCell ?_ ?_ _ | refine Below.alloc ?_ ?_ _ | refine Below.ext ?_ ?_ _ | refine Below.trans ?_ (Below.mono ‹_› ?_))) <;> first | omega | (simp; done) | (simp; omega))⟩
set_option maxRecDepth 100000 in
theorem pattern_0 (w : World) : Calls Try.prog 83 #[.agg #[.int .i64 0, .int .i64 0, .string (B []), .int .u64 0, .int .u64 0]] w fun e w' => e = .returned (.bool true) ∧ Below w.heap.size w w' := by
  go_enter Try.func83, Try.ntmps83
  go_wp2
  go_ret
  exact ⟨rfl, by ((repeat' (with_reducible first | exact Below.refl _ _ | assumption | refine Below.drew ?_ | refine below_drewN ?_ _ | refine Below.setCell ?_ ?_ _ | refine Below.alloc ?_ ?_ _ | refine Below.ext ?_ ?_ _ | refine Below.trans ?_ (Below.mono ‹_› ?_))) <;> first | omega | (simp; done) | (simp; omega))⟩
def sR : RuleB := ⟨1, 1, 0, 0, [], 0, 0, 0, 0, [], 0, 0, 1, 1, 5, 0, 0⟩
set_option maxHeartbeats 16000000 in
set_option maxRecDepth 100000 in
theorem Right_some (w : World) : Calls Try.prog 64 #[.agg sR.cells.toArray] w fun e w' => e = .returned (.bool true) ∧ Below w.heap.size w w' := by
  obtain ⟨w1, hw1⟩ : ∃ w1, w.alloc (.cells sR.cells.toArray 68) = w1 := ⟨_, rfl⟩
  obtain ⟨C, hC⟩ : ∃ C, sR.cells.toArray = C := ⟨_, rfl⟩
  have HCELL : ∀ j u, sR.cells[j]? = some u → w1.cell? ⟨w.heap.size, j, none⟩ = some u := fun j u hj => by
    rw [← hw1, cell_of_row _ _ _ _ _ _ (heap_alloc_last w _)]
    simpa using hj
  have hsz : w1.heap.size = w.heap.size + 1 := by rw [← hw1]; show (w.heap.push _).size = _; simp
  have gb : Below w.heap.size w w1 := by rw [← hw1]; exact (Below.refl _ _).alloc (Nat.le_refl _) _
  rw [hC] at hw1
  rw [hC]
  clear hC
  have HC := Lib.hid HCELL
  have GB := Lib.hid gb
  have HSZ := Lib.hid hsz
  clear gb hsz HCELL
  go_enter Try.func64, Try.ntmps64
  go_wp2_with fail
  clear hw1
  have HCELL := HC.out
  have hS0 : Below (w.heap.size + 1) w1 w1.drew := (Below.refl _ _).drew
  have keep : ∀ W W', Below (w.heap.size + 1) w1 W → Below W.heap.size W W' → Below (w.heap.size + 1) w1 W' := fun W W' h h' => h.trans (h'.mono (by have := h.size; have := HSZ.out; omega))
  refine wp_region_held (S := fun W => Below (w.heap.size + 1) w1 W) (by kernel_rfl) ?_
  change wpAnyH _ _ _ _ _ _ _ _ w1.drew
  refine takeHg 0 rfl (some 3) rfl (.pointer (some ⟨w.heap.size, 0, none⟩)) (by kernel_rfl) (by kernel_rfl) (by kernel_rfl) (by kernel_rfl) (fun _ _ _ h => h) (fun _ _ => by kernel_rfl) hS0 ?_
  simp only [Act.put, List.setIfInBounds_toArray, List.set_cons_zero, List.set_cons_succ]
  refine takeHg 1 rfl (some 4) rfl (.int .i64 1) (by kernel_rfl) (by kernel_rfl) (by kernel_rfl) (by kernel_rfl) (fun _ _ _ h => h) (fun W hW => runLdInt (.tmp 3) rfl ⟨w.heap.size, 0, none⟩ rfl _ (by rw [hW.cell (p := ⟨w.heap.size, 0, none⟩) (Nat.lt_succ_self _)]; exact HCELL 0 _ rfl)) hS0 ?_
  simp only [Act.put, List.setIfInBounds_toArray, List.set_cons_zero, List.set_cons_succ]
  refine takeHg 2 rfl (some 5) rfl (.bool true) (by kernel_rfl) (by kernel_rfl) (by kernel_rfl) (by kernel_rfl) (fun _ _ _ h => h) (fun _ _ => by kernel_rfl) hS0 ?_
  simp only [Act.put, List.setIfInBounds_toArray, List.set_cons_zero, List.set_cons_succ]
  refine takeHg 3 rfl (some 6) rfl (.bool true) (by kernel_rfl) (by kernel_rfl) (by kernel_rfl) (by kernel_rfl) (fun _ _ _ h => h) (fun _ _ => by kernel_rfl) hS0 ?_
  simp only [Act.put, List.setIfInBounds_toArray, List.set_cons_zero, List.set_cons_succ]
  refine takeHg 4 rfl (some 7) rfl (.pointer (some ⟨w.heap.size, 0, none⟩)) (by kernel_rfl) (by kernel_rfl) (by kernel_rfl) (by kernel_rfl) (fun _ _ _ h => h) (fun _ _ => by kernel_rfl) hS0 ?_
  simp only [Act.put, List.setIfInBounds_toArray, List.set_cons_zero, List.set_cons_succ]
  refine takeHg 5 rfl (some 8) rfl (.int .i64 1) (by kernel_rfl) (by kernel_rfl) (by kernel_rfl) (by kernel_rfl) (fun _ _ _ h => h) (fun W hW => runLdInt (.tmp 7) rfl ⟨w.heap.size, 0, none⟩ rfl _ (by rw [hW.cell (p := ⟨w.heap.size, 0, none⟩) (Nat.lt_succ_self _)]; exact HCELL 0 _ rfl)) hS0 ?_
  simp only [Act.put, List.setIfInBounds_toArray, List.set_cons_zero, List.set_cons_succ]
  refine takeHg 6 rfl (some 9) rfl (.bool true) (by kernel_rfl) (by kernel_rfl) (by kernel_rfl) (by kernel_rfl) (fun _ _ _ h => h) (fun _ _ => by kernel_rfl) hS0 ?_
  simp only [Act.put, List.setIfInBounds_toArray, List.set_cons_zero, List.set_cons_succ]
  refine takeHg 7 rfl (some 10) rfl (.bool true) (by kernel_rfl) (by kernel_rfl) (by kernel_rfl) (by kernel_rfl) (fun _ _ _ h => h) (fun _ _ => by kernel_rfl) hS0 ?_
  simp only [Act.put, List.setIfInBounds_toArray, List.set_cons_zero, List.set_cons_succ]
  refine takeHg 8 rfl (some 11) rfl (.bool true) (by kernel_rfl) (by kernel_rfl) (by kernel_rfl) (by kernel_rfl) (fun _ _ _ h => h) (fun _ _ => by kernel_rfl) hS0 ?_
  simp only [Act.put, List.setIfInBounds_toArray, List.set_cons_zero, List.set_cons_succ]
  refine takeHg 9 rfl (some 12) rfl (.pointer (some ⟨w.heap.size, 1, none⟩)) (by kernel_rfl) (by kernel_rfl) (by kernel_rfl) (by kernel_rfl) (fun _ _ _ h => h) (fun _ _ => by kernel_rfl) hS0 ?_
  simp only [Act.put, List.setIfInBounds_toArray, List.set_cons_zero, List.set_cons_succ]
  refine takeHg 10 rfl (some 13) rfl (.int .i64 1) (by kernel_rfl) (by kernel_rfl) (by kernel_rfl) (by kernel_rfl) (fun _ _ _ h => h) (fun W hW => runLdInt (.tmp 12) rfl ⟨w.heap.size, 1, none⟩ rfl _ (by rw [hW.cell (p := ⟨w.heap.size, 1, none⟩) (Nat.lt_succ_self _)]; exact HCELL 1 _ rfl)) hS0 ?_
  simp only [Act.put, List.setIfInBounds_toArray, List.set_cons_zero, List.set_cons_succ]
  refine takeHg 11 rfl (some 14) rfl (.bool true) (by kernel_rfl) (by kernel_rfl) (by kernel_rfl) (by kernel_rfl) (fun _ _ _ h => h) (fun _ _ => by kernel_rfl) hS0 ?_
  simp only [Act.put, List.setIfInBounds_toArray, List.set_cons_zero, List.set_cons_succ]
  refine takeHg 12 rfl (some 15) rfl (.bool true) (by kernel_rfl) (by kernel_rfl) (by kernel_rfl) (by kernel_rfl) (fun _ _ _ h => h) (fun _ _ => by kernel_rfl) hS0 ?_
  simp only [Act.put, List.setIfInBounds_toArray, List.set_cons_zero, List.set_cons_succ]
  refine skipHg 13 rfl (some 16) rfl (by kernel_rfl) (by kernel_rfl) hS0 ?_
  simp only [Act.put, List.setIfInBounds_toArray, List.set_cons_zero, List.set_cons_succ]
  refine skipHg 14 rfl (some 17) rfl (by kernel_rfl) (by kernel_rfl) hS0 ?_
  simp only [Act.put, List.setIfInBounds_toArray, List.set_cons_zero, List.set_cons_succ]
  refine skipHg 15 rfl (some 18) rfl (by kernel_rfl) (by kernel_rfl) hS0 ?_
  simp only [Act.put, List.setIfInBounds_toArray, List.set_cons_zero, List.set_cons_succ]
  refine takeHg 16 rfl (some 19) rfl (.bool true) (by kernel_rfl) (by kernel_rfl) (by kernel_rfl) (by kernel_rfl) (fun _ _ _ h => h) (fun _ _ => by kernel_rfl) hS0 ?_
  simp only [Act.put, List.setIfInBounds_toArray, List.set_cons_zero, List.set_cons_succ]
  refine takeHg 17 rfl (some 20) rfl (.bool true) (by kernel_rfl) (by kernel_rfl) (by kernel_rfl) (by kernel_rfl) (fun _ _ _ h => h) (fun _ _ => by kernel_rfl) hS0 ?_
  simp only [Act.put, List.setIfInBounds_toArray, List.set_cons_zero, List.set_cons_succ]
  refine takeHg 18 rfl (some 21) rfl (.bool true) (by kernel_rfl) (by kernel_rfl) (by kernel_rfl) (by kernel_rfl) (fun _ _ _ h => h) (fun _ _ => by kernel_rfl) hS0 ?_
  simp only [Act.put, List.setIfInBounds_toArray, List.set_cons_zero, List.set_cons_succ]
  refine takeHg 19 rfl (some 22) rfl (.pointer (some ⟨w.heap.size, 2, none⟩)) (by kernel_rfl) (by kernel_rfl) (by kernel_rfl) (by kernel_rfl) (fun _ _ _ h => h) (fun _ _ => by kernel_rfl) hS0 ?_
  simp only [Act.put, List.setIfInBounds_toArray, List.set_cons_zero, List.set_cons_succ]
  refine takeHg 20 rfl (some 23) rfl (.agg #[.int .i64 0, .int .i64 0, .string (B []), .int .u64 0, .int .u64 0]) (by kernel_rfl) (by kernel_rfl) (by kernel_rfl) (by kernel_rfl) (fun _ _ _ h => h) (fun W hW => runLdPat (.tmp 22) rfl w.heap.size 2 rfl (rangeAt_below (by intro j u hj; exact HCELL (2 + j) u (by have := (List.getElem?_eq_some_iff.1 hj).1; match j, this, hj with | 0, _, hj => exact hj | 1, _, hj => exact hj | 2, _, hj => exact hj | 3, _, hj => exact hj | 4, _, hj => exact hj)) hW (Nat.lt_succ_self _))) hS0 ?_
  simp only [Act.put, List.setIfInBounds_toArray, List.set_cons_zero, List.set_cons_succ]
  refine oneHg 21 rfl (by kernel_rfl) (by kernel_rfl) fun K hK => ?_
  refine wpH_call (some 24) rfl 83 #[.agg #[.int .i64 0, .int .i64 0, .string (B []), .int .u64 0, .int .u64 0]] (by kernel_rfl) _ _ (pattern_0 _) fun Wc1 hWc1 => ?_
  simp only [Act.put, List.setIfInBounds_toArray, List.set_cons_zero, List.set_cons_succ]
  have hSc1 : Below (w.heap.size + 1) w1 Wc1 := keep w1.drew Wc1 hS0 hWc1
  refine hK _ _ hSc1 fun _ => ?_
  clear hK K
  refine takeHg 22 rfl (some 25) rfl (.bool true) (by kernel_rfl) (by kernel_rfl) (by kernel_rfl) (by kernel_rfl) (fun _ _ _ h => h) (fun _ _ => by kernel_rfl) hSc1 ?_
  simp only [Act.put, List.setIfInBounds_toArray, List.set_cons_zero, List.set_cons_succ]
  refine takeHg 23 rfl (some 26) rfl (.bool true) (by kernel_rfl) (by kernel_rfl) (by kernel_rfl) (by kernel_rfl) (fun _ _ _ h => h) (fun _ _ => by kernel_rfl) hSc1 ?_
  simp only [Act.put, List.setIfInBounds_toArray, List.set_cons_zero, List.set_cons_succ]
  refine takeHg 24 rfl (some 27) rfl (.pointer (some ⟨w.heap.size, 7, none⟩)) (by kernel_rfl) (by kernel_rfl) (by kernel_rfl) (by kernel_rfl) (fun _ _ _ h => h) (fun _ _ => by kernel_rfl) hSc1 ?_
  simp only [Act.put, List.setIfInBounds_toArray, List.set_cons_zero, List.set_cons_succ]
  refine takeHg 25 rfl (some 28) rfl (.agg #[.int .i64 0, .int .i64 0, .string (B []), .int .u64 0, .int .u64 0]) (by kernel_rfl) (by kernel_rfl) (by kernel_rfl) (by kernel_rfl) (fun _ _ _ h => h) (fun W hW => runLdPat (.tmp 27) rfl w.heap.size 7 rfl (rangeAt_below (by intro j u hj; exact HCELL (7 + j) u (by have := (List.getElem?_eq_some_iff.1 hj).1; match j, this, hj with | 0, _, hj => exact hj | 1, _, hj => exact hj | 2, _, hj => exact hj | 3, _, hj => exact hj | 4, _, hj => exact hj)) hW (Nat.lt_succ_self _))) hSc1 ?_
  simp only [Act.put, List.setIfInBounds_toArray, List.set_cons_zero, List.set_cons_succ]
  refine oneHg 26 rfl (by kernel_rfl) (by kernel_rfl) fun K hK => ?_
  refine wpH_call (some 29) rfl 83 #[.agg #[.int .i64 0, .int .i64 0, .string (B []), .int .u64 0, .int .u64 0]] (by kernel_rfl) _ _ (pattern_0 _) fun Wc2 hWc2 => ?_
  simp only [Act.put, List.setIfInBounds_toArray, List.set_cons_zero, List.set_cons_succ]
  have hSc2 : Below (w.heap.size + 1) w1 Wc2 := keep Wc1 Wc2 hSc1 hWc2
  refine hK _ _ hSc2 fun _ => ?_
  clear hK K
  refine takeHg 27 rfl (some 30) rfl (.bool true) (by kernel_rfl) (by kernel_rfl) (by kernel_rfl) (by kernel_rfl) (fun _ _ _ h => h) (fun _ _ => by kernel_rfl) hSc2 ?_
  simp only [Act.put, List.setIfInBounds_toArray, List.set_cons_zero, List.set_cons_succ]
  refine takeHg 28 rfl (some 31) rfl (.bool true) (by kernel_rfl) (by kernel_rfl) (by kernel_rfl) (by kernel_rfl) (fun _ _ _ h => h) (fun _ _ => by kernel_rfl) hSc2 ?_
  simp only [Act.put, List.setIfInBounds_toArray, List.set_cons_zero, List.set_cons_succ]
  refine takeHg 29 rfl (some 32) rfl (.pointer (some ⟨w.heap.size, 1, none⟩)) (by kernel_rfl) (by kernel_rfl) (by kernel_rfl) (by kernel_rfl) (fun _ _ _ h => h) (fun _ _ => by kernel_rfl) hSc2 ?_
  simp only [Act.put, List.setIfInBounds_toArray, List.set_cons_zero, List.set_cons_succ]
  refine takeHg 30 rfl (some 33) rfl (.int .i64 1) (by kernel_rfl) (by kernel_rfl) (by kernel_rfl) (by kernel_rfl) (fun _ _ _ h => h) (fun W hW => runLdInt (.tmp 32) rfl ⟨w.heap.size, 1, none⟩ rfl _ (by rw [hW.cell (p := ⟨w.heap.size, 1, none⟩) (Nat.lt_succ_self _)]; exact HCELL 1 _ rfl)) hSc2 ?_
  simp only [Act.put, List.setIfInBounds_toArray, List.set_cons_zero, List.set_cons_succ]
  refine takeHg 31 rfl (some 34) rfl (.pointer (some ⟨w.heap.size, 12, none⟩)) (by kernel_rfl) (by kernel_rfl) (by kernel_rfl) (by kernel_rfl) (fun _ _ _ h => h) (fun _ _ => by kernel_rfl) hSc2 ?_
  simp only [Act.put, List.setIfInBounds_toArray, List.set_cons_zero, List.set_cons_succ]
  refine takeHg 32 rfl (some 35) rfl (.int .i64 1) (by kernel_rfl) (by kernel_rfl) (by kernel_rfl) (by kernel_rfl) (fun _ _ _ h => h) (fun W hW => runLdInt (.tmp 34) rfl ⟨w.heap.size, 12, none⟩ rfl _ (by rw [hW.cell (p := ⟨w.heap.size, 12, none⟩) (Nat.lt_succ_self _)]; exact HCELL 12 _ rfl)) hSc2 ?_
  simp only [Act.put, List.setIfInBounds_toArray, List.set_cons_zero, List.set_cons_succ]
  refine oneHg 33 rfl (by kernel_rfl) (by kernel_rfl) fun K hK => ?_
  refine wpH_call (some 36) rfl 84 #[.int .i64 1, .int .i64 1] (by kernel_rfl) _ _ (typed_11 _) fun Wc3 hWc3 => ?_
  simp only [Act.put, List.setIfInBounds_toArray, List.set_cons_zero, List.set_cons_succ]
  have hSc3 : Below (w.heap.size + 1) w1 Wc3 := keep Wc2 Wc3 hSc2 hWc3
  refine hK _ _ hSc3 fun _ => ?_
  clear hK K
  refine takeHg 34 rfl (some 37) rfl (.bool true) (by kernel_rfl) (by kernel_rfl) (by kernel_rfl) (by kernel_rfl) (fun _ _ _ h => h) (fun _ _ => by kernel_rfl) hSc3 ?_
  simp only [Act.put, List.setIfInBounds_toArray, List.set_cons_zero, List.set_cons_succ]
  refine takeHg 35 rfl (some 38) rfl (.bool true) (by kernel_rfl) (by kernel_rfl) (by kernel_rfl) (by kernel_rfl) (fun _ _ _ h => h) (fun _ _ => by kernel_rfl) hSc3 ?_
  simp only [Act.put, List.setIfInBounds_toArray, List.set_cons_zero, List.set_cons_succ]
  refine takeHg 36 rfl (some 39) rfl (.pointer (some ⟨w.heap.size, 13, none⟩)) (by kernel_rfl) (by kernel_rfl) (by kernel_rfl) (by kernel_rfl) (fun _ _ _ h => h) (fun _ _ => by kernel_rfl) hSc3 ?_
  simp only [Act.put, List.setIfInBounds_toArray, List.set_cons_zero, List.set_cons_succ]
  refine takeHg 37 rfl (some 40) rfl (.int .i64 1) (by kernel_rfl) (by kernel_rfl) (by kernel_rfl) (by kernel_rfl) (fun _ _ _ h => h) (fun W hW => runLdInt (.tmp 39) rfl ⟨w.heap.size, 13, none⟩ rfl _ (by rw [hW.cell (p := ⟨w.heap.size, 13, none⟩) (Nat.lt_succ_self _)]; exact HCELL 13 _ rfl)) hSc3 ?_
  simp only [Act.put, List.setIfInBounds_toArray, List.set_cons_zero, List.set_cons_succ]
  refine takeHg 38 rfl (some 41) rfl (.bool true) (by kernel_rfl) (by kernel_rfl) (by kernel_rfl) (by kernel_rfl) (fun _ _ _ h => h) (fun _ _ => by kernel_rfl) hSc3 ?_
  simp only [Act.put, List.setIfInBounds_toArray, List.set_cons_zero, List.set_cons_succ]
  refine takeHg 39 rfl (some 42) rfl (.bool true) (by kernel_rfl) (by kernel_rfl) (by kernel_rfl) (by kernel_rfl) (fun _ _ _ h => h) (fun _ _ => by kernel_rfl) hSc3 ?_
  simp only [Act.put, List.setIfInBounds_toArray, List.set_cons_zero, List.set_cons_succ]
  refine takeHg 40 rfl (some 43) rfl (.bool true) (by kernel_rfl) (by kernel_rfl) (by kernel_rfl) (by kernel_rfl) (fun _ _ _ h => h) (fun _ _ => by kernel_rfl) hSc3 ?_
  simp only [Act.put, List.setIfInBounds_toArray, List.set_cons_zero, List.set_cons_succ]
  refine takeHg 41 rfl (some 44) rfl (.pointer (some ⟨w.heap.size, 13, none⟩)) (by kernel_rfl) (by kernel_rfl) (by kernel_rfl) (by kernel_rfl) (fun _ _ _ h => h) (fun _ _ => by kernel_rfl) hSc3 ?_
  simp only [Act.put, List.setIfInBounds_toArray, List.set_cons_zero, List.set_cons_succ]
  refine takeHg 42 rfl (some 45) rfl (.int .i64 1) (by kernel_rfl) (by kernel_rfl) (by kernel_rfl) (by kernel_rfl) (fun _ _ _ h => h) (fun W hW => runLdInt (.tmp 44) rfl ⟨w.heap.size, 13, none⟩ rfl _ (by rw [hW.cell (p := ⟨w.heap.size, 13, none⟩) (Nat.lt_succ_self _)]; exact HCELL 13 _ rfl)) hSc3 ?_
  simp only [Act.put, List.setIfInBounds_toArray, List.set_cons_zero, List.set_cons_succ]
  refine takeHg 43 rfl (some 46) rfl (.bool true) (by kernel_rfl) (by kernel_rfl) (by kernel_rfl) (by kernel_rfl) (fun _ _ _ h => h) (fun _ _ => by kernel_rfl) hSc3 ?_
  simp only [Act.put, List.setIfInBounds_toArray, List.set_cons_zero, List.set_cons_succ]
  refine takeHg 44 rfl (some 47) rfl (.bool true) (by kernel_rfl) (by kernel_rfl) (by kernel_rfl) (by kernel_rfl) (fun _ _ _ h => h) (fun _ _ => by kernel_rfl) hSc3 ?_
  simp only [Act.put, List.setIfInBounds_toArray, List.set_cons_zero, List.set_cons_succ]
  refine takeHg 45 rfl (some 48) rfl (.bool true) (by kernel_rfl) (by kernel_rfl) (by kernel_rfl) (by kernel_rfl) (fun _ _ _ h => h) (fun _ _ => by kernel_rfl) hSc3 ?_
  simp only [Act.put, List.setIfInBounds_toArray, List.set_cons_zero, List.set_cons_succ]
  refine takeHg 46 rfl (some 49) rfl (.pointer (some ⟨w.heap.size, 1, none⟩)) (by kernel_rfl) (by kernel_rfl) (by kernel_rfl) (by kernel_rfl) (fun _ _ _ h => h) (fun _ _ => by kernel_rfl) hSc3 ?_
  simp only [Act.put, List.setIfInBounds_toArray, List.set_cons_zero, List.set_cons_succ]
  refine takeHg 47 rfl (some 50) rfl (.int .i64 1) (by kernel_rfl) (by kernel_rfl) (by kernel_rfl) (by kernel_rfl) (fun _ _ _ h => h) (fun W hW => runLdInt (.tmp 49) rfl ⟨w.heap.size, 1, none⟩ rfl _ (by rw [hW.cell (p := ⟨w.heap.size, 1, none⟩) (Nat.lt_succ_self _)]; exact HCELL 1 _ rfl)) hSc3 ?_
  simp only [Act.put, List.setIfInBounds_toArray, List.set_cons_zero, List.set_cons_succ]
  refine takeHg 49 rfl (some 52) rfl (.pointer (some ⟨w.heap.size, 14, none⟩)) (by kernel_rfl) (by kernel_rfl) (by kernel_rfl) (by kernel_rfl) (fun _ _ _ h => h) (fun _ _ => by kernel_rfl) hSc3 ?_
  simp only [Act.put, List.setIfInBounds_toArray, List.set_cons_zero, List.set_cons_succ]
  refine takeHg 50 rfl (some 53) rfl (.int .i64 5) (by kernel_rfl) (by kernel_rfl) (by kernel_rfl) (by kernel_rfl) (fun _ _ _ h => h) (fun W hW => runLdInt (.tmp 52) rfl ⟨w.heap.size, 14, none⟩ rfl _ (by rw [hW.cell (p := ⟨w.heap.size, 14, none⟩) (Nat.lt_succ_self _)]; exact HCELL 14 _ rfl)) hSc3 ?_
  simp only [Act.put, List.setIfInBounds_toArray, List.set_cons_zero, List.set_cons_succ]
  refine oneHg 48 rfl (by kernel_rfl) (by kernel_rfl) fun K hK => ?_
  refine wpH_call (some 51) rfl 86 #[.int .i64 1] (by kernel_rfl) _ _ (variants_1 Wc3) fun Wc4 hWc4 => ?_
  simp only [Act.put, List.setIfInBounds_toArray, List.set_cons_zero, List.set_cons_succ]
  have hcv := hWc4.1
  have hSc4 : Below (w.heap.size + 1) w1 Wc4 := keep Wc3 Wc4 hSc3 hWc4.2
  refine hK _ _ hSc4 fun _ => ?_
  clear hK K
  refine oneHg 51 rfl (by kernel_rfl) (by kernel_rfl) fun K hK => ?_
  refine wpH_call (some 54) rfl 85 #[.slice (some ⟨Wc3.heap.size, 0, none⟩) 3 3, .int .i64 5] (by kernel_rfl) _ _ (Contains_5 _ _ hcv) fun Wc5 hWc5 => ?_
  simp only [Act.put, List.setIfInBounds_toArray, List.set_cons_zero, List.set_cons_succ]
  have hSc5 : Below (w.heap.size + 1) w1 Wc5 := keep Wc4 Wc5 hSc4 hWc5
  refine hK _ _ hSc5 fun _ => ?_
  clear hK K
  refine takeHg 52 rfl (some 55) rfl (.bool true) (by kernel_rfl) (by kernel_rfl) (by kernel_rfl) (by kernel_rfl) (fun _ _ _ h => h) (fun _ _ => by kernel_rfl) hSc5 ?_
  simp only [Act.put, List.setIfInBounds_toArray, List.set_cons_zero, List.set_cons_succ]
  refine takeHg 53 rfl (some 56) rfl (.bool true) (by kernel_rfl) (by kernel_rfl) (by kernel_rfl) (by kernel_rfl) (fun _ _ _ h => h) (fun _ _ => by kernel_rfl) hSc5 ?_
  simp only [Act.put, List.setIfInBounds_toArray, List.set_cons_zero, List.set_cons_succ]
  refine takeHg 54 rfl (some 57) rfl (.pointer (some ⟨w.heap.size, 15, none⟩)) (by kernel_rfl) (by kernel_rfl) (by kernel_rfl) (by kernel_rfl) (fun _ _ _ h => h) (fun _ _ => by kernel_rfl) hSc5 ?_
  simp only [Act.put, List.setIfInBounds_toArray, List.set_cons_zero, List.set_cons_succ]
  refine takeHg 55 rfl (some 58) rfl (.int .i64 0) (by kernel_rfl) (by kernel_rfl) (by kernel_rfl) (by kernel_rfl) (fun _ _ _ h => h) (fun W hW => runLdInt (.tmp 57) rfl ⟨w.heap.size, 15, none⟩ rfl _ (by rw [hW.cell (p := ⟨w.heap.size, 15, none⟩) (Nat.lt_succ_self _)]; exact HCELL 15 _ rfl)) hSc5 ?_
  simp only [Act.put, List.setIfInBounds_toArray, List.set_cons_zero, List.set_cons_succ]
  refine takeHg 56 rfl (some 59) rfl (.bool true) (by kernel_rfl) (by kernel_rfl) (by kernel_rfl) (by kernel_rfl) (fun _ _ _ h => h) (fun _ _ => by kernel_rfl) hSc5 ?_
  simp only [Act.put, List.setIfInBounds_toArray, List.set_cons_zero, List.set_cons_succ]
  refine takeHg 57 rfl (some 60) rfl (.bool true) (by kernel_rfl) (by kernel_rfl) (by kernel_rfl) (by kernel_rfl) (fun _ _ _ h => h) (fun _ _ => by kernel_rfl) hSc5 ?_
  simp only [Act.put, List.setIfInBounds_toArray, List.set_cons_zero, List.set_cons_succ]
  refine takeHg 58 rfl (some 61) rfl (.bool true) (by kernel_rfl) (by kernel_rfl) (by kernel_rfl) (by kernel_rfl) (fun _ _ _ h => h) (fun _ _ => by kernel_rfl) hSc5 ?_
  simp only [Act.put, List.setIfInBounds_toArray, List.set_cons_zero, List.set_cons_succ]
  refine takeHg 59 rfl (some 62) rfl (.pointer (some ⟨w.heap.size, 15, none⟩)) (by kernel_rfl) (by kernel_rfl) (by kernel_rfl) (by kernel_rfl) (fun _ _ _ h => h) (fun _ _ => by kernel_rfl) hSc5 ?_
  simp only [Act.put, List.setIfInBounds_toArray, List.set_cons_zero, List.set_cons_succ]
  refine takeHg 60 rfl (some 63) rfl (.int .i64 0) (by kernel_rfl) (by kernel_rfl) (by kernel_rfl) (by kernel_rfl) (fun _ _ _ h => h) (fun W hW => runLdInt (.tmp 62) rfl ⟨w.heap.size, 15, none⟩ rfl _ (by rw [hW.cell (p := ⟨w.heap.size, 15, none⟩) (Nat.lt_succ_self _)]; exact HCELL 15 _ rfl)) hSc5 ?_
  simp only [Act.put, List.setIfInBounds_toArray, List.set_cons_zero, List.set_cons_succ]
  refine takeHg 61 rfl (some 64) rfl (.bool true) (by kernel_rfl) (by kernel_rfl) (by kernel_rfl) (by kernel_rfl) (fun _ _ _ h => h) (fun _ _ => by kernel_rfl) hSc5 ?_
  simp only [Act.put, List.setIfInBounds_toArray, List.set_cons_zero, List.set_cons_succ]
  refine takeHg 62 rfl (some 65) rfl (.bool true) (by kernel_rfl) (by kernel_rfl) (by kernel_rfl) (by kernel_rfl) (fun _ _ _ h => h) (fun _ _ => by kernel_rfl) hSc5 ?_
  simp only [Act.put, List.setIfInBounds_toArray, List.set_cons_zero, List.set_cons_succ]
  refine takeHg 63 rfl (some 66) rfl (.bool true) (by kernel_rfl) (by kernel_rfl) (by kernel_rfl) (by kernel_rfl) (fun _ _ _ h => h) (fun _ _ => by kernel_rfl) hSc5 ?_
  simp only [Act.put, List.setIfInBounds_toArray, List.set_cons_zero, List.set_cons_succ]
  refine takeHg 64 rfl (some 67) rfl (.pointer (some ⟨w.heap.size, 16, none⟩)) (by kernel_rfl) (by kernel_rfl) (by kernel_rfl) (by kernel_rfl) (fun _ _ _ h => h) (fun _ _ => by kernel_rfl) hSc5 ?_
  simp only [Act.put, List.setIfInBounds_toArray, List.set_cons_zero, List.set_cons_succ]
  refine takeHg 65 rfl (some 68) rfl (.int .i64 0) (by kernel_rfl) (by kernel_rfl) (by kernel_rfl) (by kernel_rfl) (fun _ _ _ h => h) (fun W hW => runLdInt (.tmp 67) rfl ⟨w.heap.size, 16, none⟩ rfl _ (by rw [hW.cell (p := ⟨w.heap.size, 16, none⟩) (Nat.lt_succ_self _)]; exact HCELL 16 _ rfl)) hSc5 ?_
  simp only [Act.put, List.setIfInBounds_toArray, List.set_cons_zero, List.set_cons_succ]
  refine takeHg 66 rfl (some 69) rfl (.bool true) (by kernel_rfl) (by kernel_rfl) (by kernel_rfl) (by kernel_rfl) (fun _ _ _ h => h) (fun _ _ => by kernel_rfl) hSc5 ?_
  simp only [Act.put, List.setIfInBounds_toArray, List.set_cons_zero, List.set_cons_succ]
  refine takeHg 67 rfl (some 70) rfl (.bool true) (by kernel_rfl) (by kernel_rfl) (by kernel_rfl) (by kernel_rfl) (fun _ _ _ h => h) (fun _ _ => by kernel_rfl) hSc5 ?_
  simp only [Act.put, List.setIfInBounds_toArray, List.set_cons_zero, List.set_cons_succ]
  refine takeHg 68 rfl (some 71) rfl (.bool true) (by kernel_rfl) (by kernel_rfl) (by kernel_rfl) (by kernel_rfl) (fun _ _ _ h => h) (fun _ _ => by kernel_rfl) hSc5 ?_
  simp only [Act.put, List.setIfInBounds_toArray, List.set_cons_zero, List.set_cons_succ]
  refine takeHg 69 rfl (some 72) rfl (.pointer (some ⟨w.heap.size, 16, none⟩)) (by kernel_rfl) (by kernel_rfl) (by kernel_rfl) (by kernel_rfl) (fun _ _ _ h => h) (fun _ _ => by kernel_rfl) hSc5 ?_
  simp only [Act.put, List.setIfInBounds_toArray, List.set_cons_zero, List.set_cons_succ]
  refine takeHg 70 rfl (some 73) rfl (.int .i64 0) (by kernel_rfl) (by kernel_rfl) (by kernel_rfl) (by kernel_rfl) (fun _ _ _ h => h) (fun W hW => runLdInt (.tmp 72) rfl ⟨w.heap.size, 16, none⟩ rfl _ (by rw [hW.cell (p := ⟨w.heap.size, 16, none⟩) (Nat.lt_succ_self _)]; exact HCELL 16 _ rfl)) hSc5 ?_
  simp only [Act.put, List.setIfInBounds_toArray, List.set_cons_zero, List.set_cons_succ]
  refine takeHg 71 rfl (some 74) rfl (.bool true) (by kernel_rfl) (by kernel_rfl) (by kernel_rfl) (by kernel_rfl) (fun _ _ _ h => h) (fun _ _ => by kernel_rfl) hSc5 ?_
  simp only [Act.put, List.setIfInBounds_toArray, List.set_cons_zero, List.set_cons_succ]
  refine takeHg 72 rfl (some 75) rfl (.bool true) (by kernel_rfl) (by kernel_rfl) (by kernel_rfl) (by kernel_rfl) (fun _ _ _ h => h) (fun _ _ => by kernel_rfl) hSc5 ?_
  simp only [Act.put, List.setIfInBounds_toArray, List.set_cons_zero, List.set_cons_succ]
  refine takeHg 73 rfl (some 2) rfl (.bool true) (by kernel_rfl) (by kernel_rfl) (by kernel_rfl) (by kernel_rfl) (fun _ _ _ h => h) (fun _ _ => by kernel_rfl) hSc5 ?_
  simp only [Act.put, List.setIfInBounds_toArray, List.set_cons_zero, List.set_cons_succ]
  refine wpAnyH_done (by kernel_rfl) ?_ _
  go_wp2
  go_ret
  exact ⟨rfl, GB.out.trans (hSc5.mono (Nat.le_succ _))⟩
set_option maxRecDepth 100000 in
theorem IndexFunc_nil (w : World) (f : Value) : Calls Try.prog 93 #[.slice none 0 0, f] w fun e w' => e = .returned (.int .i64 (-1)) ∧ Below w.heap.size w w' := by
  go_enter Try.func93, Try.ntmps93
  go_wp2
  go_loop [8] (fun i => i = .int .i64 0) (fun _ => 0)
  case atStart => rfl
  case round =>
    subst hrel
    go_wp2
    go_ret
    exact ⟨rfl, by ((repeat' (with_reducible first | exact Below.refl _ _ | assumption | refine Below.drew ?_ | refine below_drewN ?_ _ | refine Below.setCell ?_ ?_ _ | refine Below.alloc ?_ ?_ _ | refine Below.ext ?_ ?_ _ | refine Below.trans ?_ (Below.mono ‹_› ?_))) <;> first | omega | (simp; done) | (simp; omega))⟩
theorem ContainsFunc_nil (w : World) (f : Value) : Calls Try.prog 87 #[.slice none 0 0, f] w fun e w' => e = .returned (.bool false) ∧ Below w.heap.size w w' := by
  go_enter Try.func87, Try.ntmps87
  go_wp2_with fail
  refine Calls.ext (IndexFunc_nil _ _) fun u => ?_
  go_wp2
  go_ret
  exact ⟨rfl, by ((repeat' (with_reducible first | exact Below.refl _ _ | assumption | refine Below.drew ?_ | refine below_drewN ?_ _ | refine Below.setCell ?_ ?_ _ | refine Below.alloc ?_ ?_ _ | refine Below.ext ?_ ?_ _ | refine Below.trans ?_ (Below.mono ‹_› ?_))) <;> first | omega | (simp; done) | (simp; omega))⟩
theorem May_nil (w : World) : Calls Try.prog 66 #[.slice none 0 0] w fun e w' => e = .returned (.bool true) ∧ Below w.heap.size w w' := by
  go_enter Try.func66, Try.ntmps66
  go_wp2_with fail
  refine Calls.ext (ContainsFunc_nil _ _) fun u => ?_
  go_wp2
  go_ret
  exact ⟨rfl, by ((repeat' (with_reducible first | exact Below.refl _ _ | assumption | refine Below.drew ?_ | refine below_drewN ?_ _ | refine Below.setCell ?_ ?_ _ | refine Below.alloc ?_ ?_ _ | refine Below.ext ?_ ?_ _ | refine Below.trans ?_ (Below.mono ‹_› ?_))) <;> first | omega | (simp; done) | (simp; omega))⟩
set_option maxRecDepth 100000 in
theorem some_any (w : World) : Calls Try.prog 65 #[] w fun e w' => e = .returned (.agg sR.cells.toArray) ∧ Below w.heap.size w w' := by
  go_enter Try.func65, Try.ntmps65
  go_wp2_with (with_reducible refine stop_store 68 rfl ?_)
  refine store_row 68 (.tmp 0) (.tmp 1) rfl rfl rfl w.heap.size sR.cells.toArray rfl rfl 68 zeroR.cells.toArray (heap_alloc_last w _) infoR rfl (oneR _) ?_
  rw [World.setRow_alloc_new]
  have hb : Below w.heap.size w (w.alloc (.cells sR.cells.toArray 68)) := (Below.refl _ _).alloc (Nat.le_refl _) _
  have hh := heap_alloc_last w (.cells sR.cells.toArray 68)
  generalize w.alloc (.cells sR.cells.toArray 68) = w1 at *
  go_wp2
  refine post_row (w.heap.size) rfl 68 sR.cells.toArray _ rfl hh Try.underlying68 rfl infoR rfl ?_
  exact ⟨rfl, hb⟩
theorem awake_pol (w : World) : Calls Try.prog 32 #[] w fun e w' => e = .returned (.bool true) ∧ Below w.heap.size w w' := by
  have H1 := Lib.hid fun W => Right_some W
  obtain ⟨C, hC⟩ : ∃ C, sR.cells.toArray = C := ⟨_, rfl⟩
  have H2 := Lib.hid fun W => some_any W
  rw [hC] at H1 H2
  clear hC
  go_enter Try.func32, Try.ntmps32
  go_wp2_with fail
  refine Calls.ext (H2.out _) fun u => ?_
  go_wp2_with fail
  refine Calls.ext (H1.out _) fun u => ?_
  go_wp2_with fail
  refine Calls.ext (May_nil _) fun u => ?_
  go_wp2
  go_ret
  exact ⟨rfl, by ((repeat' (with_reducible first | exact Below.refl _ _ | assumption | refine Below.drew ?_ | refine below_drewN ?_ _ | refine Below.setCell ?_ ?_ _ | refine Below.alloc ?_ ?_ _ | refine Below.ext ?_ ?_ _ | refine Below.trans ?_ (Below.mono ‹_› ?_))) <;> first | omega | (simp; done) | (simp; omega))⟩
end Go.Proofs.Ythoickghfjgmmaa.Pol
