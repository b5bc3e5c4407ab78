/-
  The reference of SHA-2: Sum of the three sizes; the choice of a size.
  Conditions: named at each.
-/
import Derived.Test.YtpgadpnaekhiaaaDoorRsC32
import Derived.Test.YtpgadpnaekhiaaaDoorRsC64
import Derived.Test.YtpgadpnaekhiaaaDoorHm
namespace Go.Proofs.YtpgadpnaekhiaaaDoor.Hm
open Go.ChangeShapes Go.WideShapes Go.ChangeAt Go.RowKit Go.Deep
open Go.Proofs.YtpgadpnaekhiaaaDoor.Sha (GlobAt)
theorem Ref_any (size : Nat) (b : List UInt8) (w : World) (h : Good size) (hb : b.length ≤ 100000) : Calls Tryd.prog 16 #[.int .i64 size, .string (B b)] w fun e w' => e = .returned (.string (B (digest size b))) ∧ Below w.heap.size w w' := by
  rcases h with rfl | rfl | rfl
  · exact Sha32.Sum_ref 256 0 b w Sha.ok256 (.inr ⟨rfl, rfl⟩) hb
  · exact Sha64.Sum_ref 384 1 b w Sha.ok384 (.inl ⟨rfl, rfl⟩) hb
  · exact Sha64.Sum_ref 512 0 b w Sha.ok512 (.inr ⟨rfl, rfl⟩) hb
def sizeL (m : Nat) : Nat := [256, 384, 512].getD m 0
theorem size_good (m : Nat) (h : m < 3) : Good (sizeL m) := by
  match m, h with
  | 0, _ => exact .inl rfl
  | 1, _ => exact .inr (.inl rfl)
  | 2, _ => exact .inr (.inr rfl)
  | m + 3, h => exact absurd h (by omega)
theorem size_idx (m : Nat) (h : m < 3) (W : World) : (Instr.index 39 (.agg #[.int .i64 256, .int .i64 384, .int .i64 512]) (.int .u8 (m : Int))).run Tryd.prog W = .ok (.int .i64 ((sizeL m : Nat) : Int)) W := by
  refine index_nums (P := Tryd.prog) W 39 3 3 m .i64 .u8 _ _ Tryd.underlying39 Tryd.underlying3 (by kernel_rfl) h ?_
  match m, h with
  | 0, _ => rfl
  | 1, _ => rfl
  | 2, _ => rfl
  | m + 3, h => exact absurd h (by omega)
end Go.Proofs.YtpgadpnaekhiaaaDoor.Hm
