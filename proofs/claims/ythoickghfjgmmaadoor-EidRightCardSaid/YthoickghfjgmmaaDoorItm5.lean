/-
  The walks of item.Right, same and Same: whether two items are one.
  Conditions: none.
-/
import Derived.Test.YthoickghfjgmmaaDoorItm4
import Derived.Test.YthoickghfjgmmaaDoorHeld
namespace Go.Proofs.YthoickghfjgmmaaDoor.Itm
open Go.ChangeShapes Go.WideShapes Go.ChangeAt Go.RowKit Go.Deep
def SameP (a b : Tr) (e : Ending) : Prop := ∃ k, e = .returned (.bool k) ∧ (k = true ↔ a = b)
section
variable {P : Program} {ops : Array Oper} {Q : Exit → Act → World → Prop} {md : Region.Mode} {S : World → Prop}
/-- A call whose value is not known beforehand. -/
theorem wpH_callE {o : Oper} {a : Act} {w : World} {K : Act → World → Prop} (dst : Option Tmp) (hdst : o.dst = dst) (f : FuncId) (args : Array Value) (hrun : (execOp a.eval o).run P w = .ok (.enter f args) w) (R : Value → World → Prop)
    (hc : Calls P f args w fun e w' => ∃ v, e = .returned v ∧ R v w') (h : ∀ v w', R v w' → K (a.put dst v) w') : o.wp P a w K Q := by
  subst hdst
  unfold Oper.wp
  rw [hrun]
  refine hc.mono ?_
  rintro _ w' ⟨v, rfl, hr⟩
  exact h v w' hr
end
theorem runLdCell {o : Oper} {a : Act} {w : World} (x : Operand) (ho : o.op = .load 27 x) (p : Addr) (hx : a.eval x = .pointer (some p)) (v : Value) (hc : w.cell? p = some v) : (execOp a.eval o).run Tryd.prog w = .ok (.value v) w := by
  unfold execOp
  simp only [ho, hx]
  go_simp
theorem runIdx {o : Oper} {a : Act} {w : World} (x y : Operand) (ho : o.op = .indexAddr 27 x y) (b f n c i : Nat) (hx : a.eval x = .slice (some ⟨b, f, none⟩) n c) (hy : a.eval y = .int .i64 (i : Int)) (hi : i < n) :
    (execOp a.eval o).run Tryd.prog w = .ok (.value (.pointer (some ⟨b, f + i * 5, none⟩))) w := by
  have hlt : (i : Int) < (n : Int) := by omega
  unfold execOp
  simp only [ho, hx, hy]
  go_simp
theorem runLdItem {o : Oper} {a : Act} {w : World} (x : Operand) (ho : o.op = .load 29 x) (b f : Nat) (hx : a.eval x = .pointer (some ⟨b, f, none⟩)) (X : Array Value) (h5 : X.size = 5) (hc : w.rangeAt b f X.toList) : (execOp a.eval o).run Tryd.prog w = .ok (.value (.agg X)) w := by
  unfold execOp
  simp only [ho, hx, Instr.loadAt, Instr.sureAddr, Sem.run_bind, Sem.run_pure, Result.andThen_ok, run_loadVar_mid w b f 29 X.toList _ hc Tryd.underlying29 rfl (by simpa [h5] using infoI)]
theorem take_same {l l2 : List Tr} {i : Nat} {x y : Tr} (hx : l[i]? = some x) (hy : l2[i]? = some y) (h : l.take i = l2.take i) : (x = y → l.take (i + 1) = l2.take (i + 1)) ∧ (¬ x = y → ¬ l = l2) := by
  constructor
  · intro he
    rw [List.take_add_one, List.take_add_one, h, hx, hy, he]
  · intro hne he
    subst he
    rw [hx] at hy
    exact hne (Option.some.inj hy)
end Go.Proofs.YthoickghfjgmmaaDoor.Itm
