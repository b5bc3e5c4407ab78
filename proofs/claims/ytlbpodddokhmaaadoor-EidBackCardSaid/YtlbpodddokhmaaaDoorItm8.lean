/-
  The walk of the reference's Bytes; what an item's bytes are.
  Conditions: the item is plain and of at most 200 items and bytes.
-/
import Derived.Test.YtlbpodddokhmaaaDoorItm7
namespace Go.Proofs.YtlbpodddokhmaaaDoor.Itm
open Go.ChangeShapes Go.WideShapes Go.ChangeAt Go.RowKit Go.Deep
mutual
def bytesB : Tr → List UInt8
  | .mk k n s l o => if k = 0 then headB 0 n else if k < 4 then headB k.toNat s.length ++ s else (if o then [159] else headB 4 l.length) ++ (bytesL l ++ (if o then [255] else []))
def bytesL : List Tr → List UInt8
  | [] => []
  | t :: ts => bytesB t ++ bytesL ts
end
theorem bytesL_append : ∀ a b, bytesL (a ++ b) = bytesL a ++ bytesL b
  | [], b => by simp [bytesL]
  | x :: a, b => by rw [List.cons_append, bytesL, bytesL, bytesL_append a b, List.append_assoc]
theorem bytesL_take {l : List Tr} {i : Nat} {x : Tr} (h : l[i]? = some x) : bytesL (l.take (i + 1)) = bytesL (l.take i) ++ bytesB x := by
  rw [List.take_add_one, h, bytesL_append]
  simp [bytesL]
mutual
theorem bytesB_len : ∀ t : Tr, (bytesB t).length ≤ 10 * szT t
  | .mk k n s l o => by
    have h0 := (headB_length 0 n).2
    have h1 := (headB_length k.toNat s.length).2
    have h2 := (headB_length 4 l.length).2
    have h3 := bytesL_len l
    rw [bytesB, szT]
    split
    · omega
    · split
      · simp; omega
      · cases o <;> simp <;> omega
theorem bytesL_len : ∀ l : List Tr, (bytesL l).length ≤ 10 * szL l
  | [] => by simp [bytesL]
  | t :: ts => by
    have h1 := bytesB_len t
    have h2 := bytesL_len ts
    rw [bytesL, szL, List.length_append]
    omega
end
theorem szL_take_le {l : List Tr} (i : Nat) : szL (l.take i) ≤ szL l := by
  have h := szL_append (l.take i) (l.drop i)
  rw [List.take_append_drop] at h
  omega
theorem szT_mem {l : List Tr} {i : Nat} {x : Tr} (h : l[i]? = some x) : szT x ≤ szL l := by
  have h1 := szL_take h
  have h2 := szL_take_le (l := l) (i + 1)
  omega
theorem runLdInt {o : Oper} {a : Act} {w : World} (x : Operand) (ho : o.op = .load 3 x) (p : Addr) (hx : a.eval x = .pointer (some p)) (v : Value) (hc : w.cell? p = some v) : (execOp a.eval o).run Tryd.prog w = .ok (.value v) w := by
  unfold execOp
  simp only [ho, hx]
  go_simp
theorem runLdU64 {o : Oper} {a : Act} {w : World} (x : Operand) (ho : o.op = .load 23 x) (p : Addr) (hx : a.eval x = .pointer (some p)) (v : Value) (hc : w.cell? p = some v) : (execOp a.eval o).run Tryd.prog w = .ok (.value v) w := by
  unfold execOp
  simp only [ho, hx]
  go_simp
theorem runLdStr {o : Oper} {a : Act} {w : World} (x : Operand) (ho : o.op = .load 9 x) (p : Addr) (hx : a.eval x = .pointer (some p)) (v : Value) (hc : w.cell? p = some v) : (execOp a.eval o).run Tryd.prog w = .ok (.value v) w := by
  unfold execOp
  simp only [ho, hx]
  go_simp
theorem runLdBool {o : Oper} {a : Act} {w : World} (x : Operand) (ho : o.op = .load 4 x) (p : Addr) (hx : a.eval x = .pointer (some p)) (v : Value) (hc : w.cell? p = some v) : (execOp a.eval o).run Tryd.prog w = .ok (.value v) w := by
  unfold execOp
  simp only [ho, hx]
  go_simp
theorem runConvU {o : Oper} {a : Act} {w : World} (x : Operand) (ho : o.op = .convert 3 23 x) (n : Nat) (hn : n ≤ 9223372036854775807) (hx : a.eval x = .int .i64 (n : Int)) : (execOp a.eval o).run Tryd.prog w = .ok (.value (.int .u64 n)) w := by
  have hw : IntKind.u64.wrap (n : Int) = (n : Int) := by
    simp [IntKind.wrap, IntKind.bits, IntKind.signed]
    omega
  unfold execOp
  simp only [ho, hx]
  go_simp
  try rw [hw]
end Go.Proofs.YtlbpodddokhmaaaDoor.Itm
