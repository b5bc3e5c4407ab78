/-
  The walks of the reference's digits and Head.
  Conditions: the kind of a head is at most 7.
-/
import Derived.Test.YthoickghfjgmmaaDoorItm5
namespace Go.Proofs.YthoickghfjgmmaaDoor.Itm
open Go.ChangeShapes Go.WideShapes Go.ChangeAt Go.RowKit Go.Deep
/-- The last i digits of a number to the base 256. -/
def dg (n : Nat) : Nat → List UInt8
  | 0 => []
  | i + 1 => UInt8.ofNat (n / 256 ^ i) :: dg n i
theorem dg_length (n : Nat) : ∀ i, (dg n i).length = i
  | 0 => rfl
  | i + 1 => by rw [dg, List.length_cons, dg_length n i]
theorem conv1 (w : World) (x : Nat) (t : TypeId) : (convert 49 9 (.slice (some ⟨w.heap.size, 0, none⟩) 1 1)).run Tryd.prog (w.alloc (.cells #[.int .u8 (x : Int)] t)) = .ok (.string (B [UInt8.ofNat x])) (w.alloc (.cells #[.int .u8 (x : Int)] t)) :=
  string_new w t 49 9 5 1 1 [x] Tryd.underlying49 Tryd.underlying5 Tryd.underlying9 rfl
theorem conv1_at (w : World) (x b : Nat) (hc : w.cell? ⟨b, 0, none⟩ = some (.int .u8 (x : Int))) : (convert 49 9 (.slice (some ⟨b, 0, none⟩) 1 1)).run Tryd.prog w = .ok (.string (B [UInt8.ofNat x])) w := by
  refine string_of w 49 9 5 _ 1 1 [x] Tryd.underlying49 Tryd.underlying5 Tryd.underlying9 rfl fun i hi => ?_
  obtain rfl : i = 0 := by omega
  exact hc
set_option maxHeartbeats 1600000 in
set_option maxRecDepth 100000 in
theorem digits_any (n k : Nat) (w : World) (hn : n < W64) (hk : k ≤ 8) : Calls Tryd.prog 28 #[.int .u64 n, .int .i64 k] w fun e w' => e = .returned (.string (B (dg n k))) ∧ Below w.heap.size w w' := by
  unfold W64 at hn
  go_enter Tryd.func28, Tryd.ntmps28
  go_wp2
  go_loopw [0, 5, 6] (fun s0 s5 s6 wr => ∃ (i m : Nat), i ≤ k ∧ s6 = .int .i64 (i : Int) ∧ s0 = .int .u64 m ∧ Hid (m = n / 256 ^ i) ∧ s5 = .string (B (dg n i)) ∧ Below w.heap.size w wr) (fun _ _ s _ => k - (intOf s).toNat)
  case atStart => exact ⟨0, n, by omega, rfl, rfl, Lib.hid (by simp), rfl, by ((repeat' (with_reducible first | exact Below.refl _ _ | assumption | refine Below.drew ?_ | refine below_drewN ?_ _ | refine Below.setCell ?_ ?_ _ | refine Below.alloc ?_ ?_ _ | refine Below.ext ?_ ?_ _ | refine Below.trans ?_ (Below.mono ‹_› ?_))) <;> first | omega | (simp; done) | (simp; omega))⟩
  case round =>
    obtain ⟨i, m, hi, rfl, rfl, HM, rfl, hb⟩ := hrel
    by_cases hend : i = k
    · have hlt : ¬ (i : Int) < (k : Int) := by omega
      subst hend
      go_wp2
      go_ret
      exact ⟨rfl, hb⟩
    · have hlt : (i : Int) < (k : Int) := by omega
      have hm : m < 18446744073709551616 := Nat.lt_of_le_of_lt (by rw [HM.out]; exact Nat.div_le_self _ _) hn
      have hbs := hb.size
      have hdg : dg n (i + 1) = UInt8.ofNat m :: dg n i := by rw [dg, HM.out]
      have HDG := Lib.hid hdg
      clear hdg hend
      have hDl := dg_length n i
      generalize dg n i = D at *
      have hD8 : D.length ≤ 8 := by omega
      clear hDl
      obtain ⟨y, hy⟩ : ∃ y : Nat, (m : Int) % 256 = (y : Int) := ⟨m % 256, by omega⟩
      have hy256 : y < 256 := by omega
      have hyb : UInt8.ofNat m = UInt8.ofNat y := by
        apply UInt8.toNat_inj.1
        simp
        omega
      have HDG2 : Hid (dg n (i + 1) = [UInt8.ofNat y] ++ D) := Lib.hid (by rw [HDG.out, hyb]; rfl)
      have hcv := conv1 wr y 5
      obtain ⟨m2, hm2⟩ : ∃ m2 : Nat, (m : Int) / 256 = (m2 : Int) := ⟨m / 256, by omega⟩
      have HM2 : Hid (m2 = n / 256 ^ (i + 1)) := Lib.hid (by
        have : m2 = m / 256 := by omega
        rw [this, HM.out, Nat.div_div_eq_div_mul, Nat.pow_succ])
      clear hyb HDG
      go_wp2
      go_round
      case rel => exact ⟨i + 1, m2, by omega, by go_num, rfl, HM2, by rw [HDG2.out]; rfl, by ((repeat' (with_reducible first | exact Below.refl _ _ | assumption | refine Below.drew ?_ | refine below_drewN ?_ _ | refine Below.setCell ?_ ?_ _ | refine Below.alloc ?_ ?_ _ | refine Below.ext ?_ ?_ _ | refine Below.trans ?_ (Below.mono ‹_› ?_))) <;> first | omega | (simp; done) | (simp; omega))⟩
      case measure => simp [intOf]; omega
def headB (m n : Nat) : List UInt8 :=
  if n < 24 then [UInt8.ofNat (32 * m + n)]
  else if n < 256 then UInt8.ofNat (32 * m + 24) :: dg n 1
  else if n < 65536 then UInt8.ofNat (32 * m + 25) :: dg n 2
  else if n < 4294967296 then UInt8.ofNat (32 * m + 26) :: dg n 4
  else UInt8.ofNat (32 * m + 27) :: dg n 8
theorem headB_length (m n : Nat) : 1 ≤ (headB m n).length ∧ (headB m n).length ≤ 9 := by
  unfold headB
  repeat' split
  all_goals simp [dg_length]
theorem runAdd8 {o : Oper} {a : Act} {w : World} (y : Operand) (c : Nat) (tp : TypeId) (ho : o.op = .binOp .add 5 y (.const (.int .u8 (c : Int))) tp) (x : Nat) (hy : a.eval y = .int .u8 (x : Int)) (hx : x + c < 256) :
    (execOp a.eval o).run Tryd.prog w = .ok (.value (.int .u8 ((x + c : Nat) : Int))) w := by
  have hw : ((x : Int) + (c : Int)) % 256 = ((x + c : Nat) : Int) := by omega
  have he : a.eval (.const (.int .u8 (c : Int))) = .int .u8 (c : Int) := rfl
  have hw2 : IntKind.u8.wrap ((x : Int) + (c : Int)) = (x : Int) + (c : Int) := by
    have : (x : Int) + (c : Int) < 256 := by omega
    simp [IntKind.wrap, IntKind.bits, IntKind.signed]
    omega
  unfold execOp
  simp only [ho, hy, he]
  go_simp
theorem runBld1 {o : Oper} {a : Act} {w : World} (y : Operand) (ho : o.op = .buildSlice 49 1 #[(0, y)]) (x : Nat) (hy : a.eval y = .int .u8 (x : Int)) :
    (execOp a.eval o).run Tryd.prog w = .ok (.value (.slice (some ⟨w.heap.size, 0, none⟩) 1 1)) (w.alloc (.cells #[.int .u8 (x : Int)] 5)) := by
  unfold execOp
  simp only [ho, List.map_toArray, List.map_cons, List.map_nil, hy]
  go_simp
theorem runConv1 {o : Oper} {a : Act} {w : World} (y : Operand) (ho : o.op = .convert 49 9 y) (x b : Nat) (hy : a.eval y = .slice (some ⟨b, 0, none⟩) 1 1) (hc : w.cell? ⟨b, 0, none⟩ = some (.int .u8 (x : Int))) :
    (execOp a.eval o).run Tryd.prog w = .ok (.value (.string (B [UInt8.ofNat x]))) w := by
  unfold execOp
  simp only [ho, hy, Sem.run_bind, conv1_at w x b hc, Result.andThen_ok, Sem.run_pure]
theorem runCat {o : Oper} {a : Act} {w : World} (x y : Operand) (tp : TypeId) (ho : o.op = .binOp .add 9 x y tp) (l r : List UInt8) (hx : a.eval x = .string (B l)) (hy : a.eval y = .string (B r)) (hl : l.length + r.length ≤ 9223372036854775807) :
    (execOp a.eval o).run Tryd.prog w = .ok (.value (.string (B (l ++ r)))) w := by
  unfold execOp
  simp only [ho, hx, hy]
  go_simp
end Go.Proofs.YthoickghfjgmmaaDoor.Itm
