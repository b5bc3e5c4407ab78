/-
  A region that draws its order and only reads up to its tail, walked by hand: one law for each kind of operation.
  Conditions: none.
-/
import Derived.Test.YtnnoimikoddbcaaBlk
import Derived.StillTailTactics
namespace Go.Proofs.Ytnnoimikoddbcaa
open Go.ChangeShapes Go.WideShapes Go.ChangeAt Go.RowKit Go.Deep
theorem wpStill_value {P : Program} {ops : Array Oper} {rest : List Oper} {o : Oper} {a : Act} {w : World} {Q : Act → Prop} (hgd : o.guard = none) (dst : Option Tmp) (hdst : o.dst = dst) (v : Value)
    (hrun : (execOp a.eval o).run P w = .ok (.value v) w) (h : wpStill P ops w Q rest (a.put dst v)) : wpStill P ops w Q (o :: rest) a := by
  have hw : Region.wanted o (yielded ops a.tmps) = true := by simp [Region.wanted, hgd]
  unfold wpStill
  rw [if_pos hw]
  unfold Oper.still
  rw [hrun]
  exact ⟨rfl, by rw [hdst]; exact h⟩
theorem wpStill_at {P : Program} {ops : Array Oper} {rest : List Oper} {o : Oper} {a : Act} {w : World} {Q : Act → Prop} (hgd : o.guard = none) (dst : Option Tmp) (hdst : o.dst = dst) (t : TypeId) (x y : Operand) (ho : o.op = .indexAddr t x y)
    (vx vy : Value) (hx : a.eval x = vx) (hy : a.eval y = vy) (v : Value) (hrun : (Instr.indexAt t vx vy).run P w = .ok v w) (h : wpStill P ops w Q rest (a.put dst v)) : wpStill P ops w Q (o :: rest) a := by
  refine wpStill_value hgd dst hdst v ?_ h
  subst hx hy
  unfold execOp
  simp only [ho, Sem.run_bind, Sem.run_pure, hrun, Result.andThen_ok]
theorem wpStill_load {P : Program} {ops : Array Oper} {rest : List Oper} {o : Oper} {a : Act} {w : World} {Q : Act → Prop} (hgd : o.guard = none) (dst : Option Tmp) (hdst : o.dst = dst) (t : TypeId) (x : Operand) (ho : o.op = .load t x)
    (vx : Value) (hx : a.eval x = vx) (v : Value) (hrun : (Instr.loadAt t vx).run P w = .ok v w) (h : wpStill P ops w Q rest (a.put dst v)) : wpStill P ops w Q (o :: rest) a := by
  refine wpStill_value hgd dst hdst v ?_ h
  subst hx
  unfold execOp
  simp only [ho, Sem.run_bind, Sem.run_pure, hrun, Result.andThen_ok]
theorem at4 (W : World) (b k : Nat) (h : k < 4) : (Instr.indexAt 104 (.pointer (some ⟨b, 0, none⟩)) (.int .i64 (k : Int))).run Try.prog W = .ok (.pointer (some ⟨b, k, none⟩)) W := by
  have hk : (k : Int) < 4 := by omega
  go_simp
theorem at256 (W : World) (b k : Nat) (h : k < 256) : (Instr.indexAt 77 (.pointer (some ⟨b, 0, none⟩)) (.int .i64 (k : Int))).run Try.prog W = .ok (.pointer (some ⟨b, k, none⟩)) W := by
  have hk : (k : Int) < 256 := by omega
  go_simp
theorem ldInt (W : World) (p : Addr) (v : Value) (h : W.cell? p = some v) : (Instr.loadAt 3 (.pointer (some p))).run Try.prog W = .ok v W := by
  go_simp
theorem wpStill_xor {ops : Array Oper} {rest : List Oper} {o : Oper} {a : Act} {w : World} {Q : Act → Prop} (hgd : o.guard = none) (dst : Option Tmp) (hdst : o.dst = dst) (x y : Operand) (tp : TypeId) (ho : o.op = .binOp .xor 3 x y tp)
    (m n : Int) (hx : a.eval x = .int .i64 m) (hy : a.eval y = .int .i64 n) (v : Int) (hv : bits .xor .i64 m n = v) (h : wpStill Try.prog ops w Q rest (a.put dst (.int .i64 v))) : wpStill Try.prog ops w Q (o :: rest) a := by
  refine wpStill_value hgd dst hdst _ ?_ h
  subst hv
  unfold execOp
  simp only [ho, hx, hy]
  go_simp
theorem wpStill_build4 {ops : Array Oper} {rest : List Oper} {o : Oper} {a : Act} {w : World} {Q : Act → Prop} (hgd : o.guard = none) (dst : Option Tmp) (hdst : o.dst = dst) (x0 x1 x2 x3 : Operand) (ho : o.op = .build 104 #[(0, x0), (1, x1), (2, x2), (3, x3)])
    (m0 m1 m2 m3 : Nat) (h0 : a.eval x0 = .int .i64 m0) (h1 : a.eval x1 = .int .i64 m1) (h2 : a.eval x2 = .int .i64 m2) (h3 : a.eval x3 = .int .i64 m3) (h : wpStill Try.prog ops w Q rest (a.put dst (.agg (nums .i64 [m0, m1, m2, m3])))) : wpStill Try.prog ops w Q (o :: rest) a := by
  refine wpStill_value hgd dst hdst _ ?_ h
  unfold execOp
  simp only [ho, h0, h1, h2, h3, List.map_toArray, List.map_cons, List.map_nil]
  unfold nums
  go_simp
end Go.Proofs.Ytnnoimikoddbcaa
