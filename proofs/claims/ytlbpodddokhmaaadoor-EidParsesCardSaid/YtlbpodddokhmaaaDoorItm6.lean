/-
  The walks of the reference's digits and Head.
  Conditions: the kind of a head is at most 7.
-/
import Derived.Test.YtlbpodddokhmaaaDoorItm5
namespace Go.Proofs.YtlbpodddokhmaaaDoor.Itm
open Go.ChangeShapes Go.WideShapes Go.ChangeAt Go.RowKit Go.Deep
/-- The last i digits of a number to the base 256. -/
def dg (n : Nat) : Nat → List UInt8
  | 0 => []
  | i + 1 => UInt8.ofNat (n / 256 ^ i) :: dg n i
theorem dg_length (n : Nat) : ∀ i, (dg n i).length = i
  | 0 => rfl
  | i + 1 => by rw [dg, List.length_cons, dg_length n i]
theorem conv1 (w : World) (x : Nat) (t : TypeId) : (convert 61 9 (.slice (some ⟨w.heap.size, 0, none⟩) 1 1)).run Tryd.prog (w.alloc (.cells #[.int .u8 (x : Int)] t)) = .ok (.string (B [UInt8.ofNat x])) (w.alloc (.cells #[.int .u8 (x : Int)] t)) :=
  string_new w t 61 9 5 1 1 [x] Tryd.underlying61 Tryd.underlying5 Tryd.underlying9 rfl
theorem conv1_at (w : World) (x b : Nat) (hc : w.cell? ⟨b, 0, none⟩ = some (.int .u8 (x : Int))) : (convert 61 9 (.slice (some ⟨b, 0, none⟩) 1 1)).run Tryd.prog w = .ok (.string (B [UInt8.ofNat x])) w := by
  refine string_of w 61 9 5 _ 1 1 [x] Tryd.underlying61 Tryd.underlying5 Tryd.underlying9 rfl fun i hi => ?_
  obtain rfl : i = 0 := by omega
  exact hc
def headB (m n : Nat) : List UInt8 :=
  if n < 24 then [UInt8.ofNat (32 * m + n)]
  else if n < 256 then UInt8.ofNat (32 * m + 24) :: dg n 1
  else if n < 65536 then UInt8.ofNat (32 * m + 25) :: dg n 2
  else if n < 4294967296 then UInt8.ofNat (32 * m + 26) :: dg n 4
  else UInt8.ofNat (32 * m + 27) :: dg n 8
theorem headB_length (m n : Nat) : 1 ≤ (headB m n).length ∧ (headB m n).length ≤ 9 := by
  unfold headB
  repeat' split
  all_goals simp [dg_length]
theorem runAdd8 {o : Oper} {a : Act} {w : World} (y : Operand) (c : Nat) (tp : TypeId) (ho : o.op = .binOp .add 5 y (.const (.int .u8 (c : Int))) tp) (x : Nat) (hy : a.eval y = .int .u8 (x : Int)) (hx : x + c < 256) :
    (execOp a.eval o).run Tryd.prog w = .ok (.value (.int .u8 ((x + c : Nat) : Int))) w := by
  have hw : ((x : Int) + (c : Int)) % 256 = ((x + c : Nat) : Int) := by omega
  have he : a.eval (.const (.int .u8 (c : Int))) = .int .u8 (c : Int) := rfl
  have hw2 : IntKind.u8.wrap ((x : Int) + (c : Int)) = (x : Int) + (c : Int) := by
    have : (x : Int) + (c : Int) < 256 := by omega
    simp [IntKind.wrap, IntKind.bits, IntKind.signed]
    omega
  unfold execOp
  simp only [ho, hy, he]
  go_simp
theorem runBld1 {o : Oper} {a : Act} {w : World} (y : Operand) (ho : o.op = .buildSlice 61 1 #[(0, y)]) (x : Nat) (hy : a.eval y = .int .u8 (x : Int)) :
    (execOp a.eval o).run Tryd.prog w = .ok (.value (.slice (some ⟨w.heap.size, 0, none⟩) 1 1)) (w.alloc (.cells #[.int .u8 (x : Int)] 5)) := by
  unfold execOp
  simp only [ho, List.map_toArray, List.map_cons, List.map_nil, hy]
  go_simp
theorem runConv1 {o : Oper} {a : Act} {w : World} (y : Operand) (ho : o.op = .convert 61 9 y) (x b : Nat) (hy : a.eval y = .slice (some ⟨b, 0, none⟩) 1 1) (hc : w.cell? ⟨b, 0, none⟩ = some (.int .u8 (x : Int))) :
    (execOp a.eval o).run Tryd.prog w = .ok (.value (.string (B [UInt8.ofNat x]))) w := by
  unfold execOp
  simp only [ho, hy, Sem.run_bind, conv1_at w x b hc, Result.andThen_ok, Sem.run_pure]
theorem runCat {o : Oper} {a : Act} {w : World} (x y : Operand) (tp : TypeId) (ho : o.op = .binOp .add 9 x y tp) (l r : List UInt8) (hx : a.eval x = .string (B l)) (hy : a.eval y = .string (B r)) (hl : l.length + r.length ≤ 9223372036854775807) :
    (execOp a.eval o).run Tryd.prog w = .ok (.value (.string (B (l ++ r)))) w := by
  unfold execOp
  simp only [ho, hx, hy]
  go_simp
end Go.Proofs.YtlbpodddokhmaaaDoor.Itm
