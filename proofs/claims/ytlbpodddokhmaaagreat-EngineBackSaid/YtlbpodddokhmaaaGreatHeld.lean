/-
  Regions that draw their order, by hand: quiet operations first, then calls, new variables and stores, each by one law.
  Conditions: none.
-/
import Derived.Test.YtlbpodddokhmaaaGreatArr
import Derived.Deep.RegionHeld
import Derived.Deep.OwnRows
import Derived.Deep.MidRow
namespace Go.Proofs.YtlbpodddokhmaaaGreat
open Go.ChangeShapes Go.WideShapes Go.ChangeAt Go.RowKit Go.Deep
section
variable {P : Program} {ops : Array Oper} {Q : Exit → Act → World → Prop} {md : Region.Mode} {S : World → Prop}
/-- A quiet operation, taken first. -/
theorem takeH (i : Nat) {oi : Oper} {fuel : Nat} {listed : Array Bool} {a : Act} {w : World} (hi : ops[i]? = some oi) (hgd : oi.guard = none) (dst : Option Tmp) (hdst : oi.dst = dst) (v : Value)
    (hs : Region.noSelect ops = true) (hf : Region.free md ops listed i = true) (hr : (Region.ready md ops listed).contains i = true)
    (hQ : ∀ c a w, Q (.panic c) (a.put dst v) w → Q (.panic c) a w) (hrun : ∀ w, S w → (execOp a.eval oi).run P w = .ok (.value v) w) (hS : S w)
    (h : wpAnyH P md ops Q S fuel (listed.setIfInBounds i true) (a.put dst v) w) : wpAnyH P md ops Q S (fuel + 1) listed a w := by
  subst hdst
  exact wpAnyH_take hi hs hf hr hQ (.inl ⟨by simp [Region.wanted, hgd], hrun⟩) hS h
/-- One operation that alone may come up. -/
theorem oneH (i : Nat) {oi : Oper} {fuel : Nat} {listed : Array Bool} {a : Act} {w : World} (hi : ops[i]? = some oi) (hgd : oi.guard = none) (hr : Region.ready md ops listed = [i])
    (h : ∀ K : Act → World → Prop, (∀ a' w', S w' → (S w' → wpAnyH P md ops Q S fuel (listed.setIfInBounds i true) a' w') → K a' w') → oi.wp P a w K Q) : wpAnyH P md ops Q S (fuel + 1) listed a w := by
  refine wpAnyH_ready hr (by simp) (AllReadyH.cons hi (fun K hK => ?_) AllReadyH.nil)
  rw [if_pos (by simp [Region.wanted, hgd])]
  exact h K hK.out
/-- Two operations that may come up. -/
theorem twoH (i j : Nat) {oi oj : Oper} {fuel : Nat} {listed : Array Bool} {a : Act} {w : World} (hi : ops[i]? = some oi) (hj : ops[j]? = some oj) (hgd : oi.guard = none) (hgj : oj.guard = none) (hr : Region.ready md ops listed = [i, j])
    (h : ∀ K : Act → World → Prop, (∀ a' w', S w' → (S w' → wpAnyH P md ops Q S fuel (listed.setIfInBounds i true) a' w') → K a' w') → oi.wp P a w K Q)
    (h2 : ∀ K : Act → World → Prop, (∀ a' w', S w' → (S w' → wpAnyH P md ops Q S fuel (listed.setIfInBounds j true) a' w') → K a' w') → oj.wp P a w K Q) : wpAnyH P md ops Q S (fuel + 1) listed a w := by
  refine wpAnyH_ready hr (by simp) (AllReadyH.cons hi (fun K hK => ?_) (AllReadyH.cons hj (fun K hK => ?_) AllReadyH.nil))
  · rw [if_pos (by simp [Region.wanted, hgd])]
    exact h K hK.out
  · rw [if_pos (by simp [Region.wanted, hgj])]
    exact h2 K hK.out
/-- A call of a Go function. -/
theorem wpH_call {o : Oper} {a : Act} {w : World} {K : Act → World → Prop} (dst : Option Tmp) (hdst : o.dst = dst) (f : FuncId) (args : Array Value) (hrun : (execOp a.eval o).run P w = .ok (.enter f args) w) (v : Value) (R : World → Prop)
    (hc : Calls P f args w fun e w' => e = .returned v ∧ R w') (h : ∀ w', R w' → K (a.put dst v) w') : o.wp P a w K Q := by
  subst hdst
  unfold Oper.wp
  rw [hrun]
  refine hc.mono ?_
  rintro _ w' ⟨rfl, hr⟩
  exact h w' hr
/-- An operation that yields a value, and may turn the world. -/
theorem wpH_run {o : Oper} {a : Act} {w w' : World} {K : Act → World → Prop} (dst : Option Tmp) (hdst : o.dst = dst) (v : Value) (hrun : (execOp a.eval o).run P w = .ok (.value v) w') (h : K (a.put dst v) w') : o.wp P a w K Q := by
  subst hdst
  unfold Oper.wp
  rw [hrun]
  exact h
/-- A store of a whole array into its block. -/
theorem wpH_store {o : Oper} {a : Act} {w : World} {K : Act → World → Prop} (hdst : o.dst = none) (ty : TypeId) (x y : Operand) (ho : o.op = .store ty x y) (b : Nat) (c old : Array Value) (t : TypeId)
    (hx : a.eval x = .pointer (some ⟨b, 0, none⟩)) (hy : a.eval y = .agg c) (hb : w.heap[b]? = some (.cells old t (0, 0))) (hi : (P.info? ty).map (·.size) = some c.size) (hold : old.size = c.size) (h1 : c.all (·.oneCell') = true)
    (h : K a (w.setRow b c)) : o.wp P a w K Q := by
  unfold Oper.wp execOp
  simp only [ho, hx, hy, Instr.storeAt, Instr.sureAddr, Sem.run_bind, Sem.run_pure, Result.andThen_ok, run_storeVar_row w b t ty old c hb hi hold h1]
  show K (a.put o.dst undef) _
  rw [hdst]
  exact h
end
/-- A load of a whole array out of its block, as an operation. -/
theorem run_load_row {P : Program} {o : Oper} {a : Act} {w : World} (ty : TypeId) (x : Operand) (ho : o.op = .load ty x) (b : Nat) (hx : a.eval x = .pointer (some ⟨b, 0, none⟩)) (c : Array Value) (t : TypeId) (fr : Nat × Nat)
    (hb : w.heap[b]? = some (.cells c t fr)) (d : TypeDesc) (hu : P.underlying ty = some d) (hd : (match d with | .struct _ | .array _ _ => true | _ => false) = true) (hi : (P.info? ty).map (·.size) = some c.size) :
    (execOp a.eval o).run P w = .ok (.value (.agg c)) w := by
  unfold execOp
  simp only [ho, hx, Instr.loadAt, Instr.sureAddr, Sem.run_bind, Sem.run_pure, Result.andThen_ok, run_loadVar_row w b t ty c fr d hb hu hd hi]
/-- A load of an array that is a part of a block, as an operation. -/
theorem run_load_part {P : Program} {o : Oper} {a : Act} {w : World} (ty : TypeId) (x : Operand) (ho : o.op = .load ty x) (b off : Nat) (hx : a.eval x = .pointer (some ⟨b, off, none⟩)) (k : IntKind) (l : List Nat)
    (hb : ∀ j, j < l.length → w.cell? ⟨b, off + j, none⟩ = some (.int k ((l.getD j 0 : Nat) : Int))) (d : TypeDesc) (hu : P.underlying ty = some d) (hd : d.isRow = true) (hi : (P.info? ty).map (·.size) = some l.length) :
    (execOp a.eval o).run P w = .ok (.value (.agg (nums k l))) w := by
  have hr : w.rangeAt b off (l.map fun n => Value.int k ((n : Nat) : Int)) := by
    intro j v hv
    simp only [List.getElem?_map, Option.map_eq_some_iff] at hv
    obtain ⟨y, hy, rfl⟩ := hv
    have hj : j < l.length := (List.getElem?_eq_some_iff.1 hy).1
    rw [hb j hj]
    simp [List.getD, hy]
  have h := run_loadAt_mid (P := P) w b off ty (l.map fun n => Value.int k ((n : Nat) : Int)) d hr hu hd (by rw [List.length_map]; exact hi)
  unfold execOp
  simp only [ho, hx, Sem.run_bind, h, Result.andThen_ok, Sem.run_pure]
  rfl
theorem setRow_heap (w : World) (b : Nat) (c c' : Array Value) (t : TypeId) (fr : Nat × Nat) (h : w.heap[b]? = some (.cells c t fr)) : (w.setRow b c').heap[b]? = some (.cells c' t fr) := by
  simp [World.setRow, Array.getElem?_modify, h]
theorem setRow_other (w : World) (b k : Nat) (c' : Array Value) (h : ¬ b = k) : (w.setRow b c').heap[k]? = w.heap[k]? := by
  simp [World.setRow, Array.getElem?_modify, h]
theorem setRow_size (w : World) (b : Nat) (c' : Array Value) : (w.setRow b c').heap.size = w.heap.size := by
  simp [World.setRow]
theorem setRow_below {B b : Nat} {w W : World} (c' : Array Value) (hB : B ≤ b) (h : Below B w W) : Below B w (W.setRow b c') := by
  refine h.trans ⟨rfl, rfl, rfl, by rw [setRow_size]; exact Nat.le_refl _, fun k hk => setRow_other _ _ _ _ (by omega)⟩
theorem below_heap {B : Nat} {w W : World} (h : Below B w W) {k : Nat} (hk : k < B) {x : Obj} (hx : w.heap[k]? = some x) : W.heap[k]? = some x := by rw [h.block k hk]; exact hx
end Go.Proofs.YtlbpodddokhmaaaGreat
