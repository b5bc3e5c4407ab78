/-
  The walk of gcm's blocks: number, read, bytes8, write, Times.
  Conditions: named at each.
-/
import Derived.Test.YtnnoimikoddbcaaGf2
namespace Go.Proofs.Ytnnoimikoddbcaa.Gf
open Go.ChangeShapes Go.WideShapes Go.ChangeAt Go.RowKit Go.Deep
open Go.Proofs.Ytnnoimikoddbcaa.Field (X mul one R)
/-- The number of the first i bytes. -/
def num (l : List UInt8) : Nat → Nat
  | 0 => 0
  | i + 1 => num l i * 256 + (l.getD i 0).toNat
theorem num_lt (l : List UInt8) : ∀ i, num l i < 256 ^ i
  | 0 => by simp [num]
  | i + 1 => by
    have := num_lt l i
    have hb := (l.getD i 0).toNat_lt
    show num l i * 256 + _ < _
    rw [Nat.pow_succ]
    omega
theorem number_any (l : List UInt8) (w : World) (hl : 8 ≤ l.length) : Calls Try.prog 37 #[.string (B l)] w fun e w' => e = .returned (.int .u64 ((num l 8 : Nat) : Int)) ∧ w = w' := by
  go_enter Try.func37, Try.ntmps37
  go_wp2
  go_loop [3, 5] (fun s3 s5 => ∃ i : Nat, i ≤ 8 ∧ s5 = .int .i64 i ∧ s3 = .int .u64 ((num l i : Nat) : Int)) (fun _ s => 8 - (intOf s).toNat)
  case atStart => exact ⟨0, by omega, rfl, rfl⟩
  case round =>
    obtain ⟨i, hi, rfl, rfl⟩ := hrel
    by_cases h8 : i = 8
    · subst h8
      go_wp2
      go_ret
      exact ⟨rfl, rfl⟩
    · have hlt : (i : Int) < 8 := by omega
      have hil : i < l.length := by omega
      have hn := num_lt l i
      have hp : 256 ^ i ≤ 256 ^ 7 := Nat.pow_le_pow_right (by omega) (by omega)
      have hm : num l i < 72057594037927936 := Nat.lt_of_lt_of_le hn hp
      have hg : l.getD i 0 = l[i] := by simp [hil]
      have hb := l[i].toNat_lt
      have hstep : bits .or .u64 ((num l i : Int) * 256) ((l[i].toNat : Nat) : Int) = ((num l (i + 1) : Nat) : Int) := by
        have e : num l (i + 1) = 2 ^ 8 * num l i + l[i].toNat := by
          show num l i * 256 + _ = _
          rw [hg]; omega
        rw [e, Nat.two_pow_add_eq_or_of_lt hb, show ((num l i : Int) * 256) = ((2 ^ 8 * num l i : Nat) : Int) by omega]
        exact bits_or_u64_nat _ _ (by omega) (by omega)
      have hwr : IntKind.u64.wrap ((l[i].toNat : Nat) : Int) = ((l[i].toNat : Nat) : Int) := by rw [IntKind.wrap_u64]; omega
      clear hn hp hg hb
      go_wp2
      go_round
      case rel => exact ⟨i + 1, by omega, by go_num, rfl⟩
      case measure => simp [intOf]; omega
/-- The polynomial of a block. -/
def rd (l : List UInt8) : Nat := num l 8 * 2 ^ 64 + num (l.drop 8) 8
theorem rd_hi (l : List UInt8) : hiW (rd l) = num l 8 := by
  have := num_lt (l.drop 8) 8
  unfold hiW rd
  rw [Nat.shiftRight_eq_div_pow]
  omega
theorem rd_lo (l : List UInt8) : loW (rd l) = num (l.drop 8) 8 := by
  have := num_lt (l.drop 8) 8
  unfold loW rd
  omega
theorem rd_lt (l : List UInt8) : rd l < 2 ^ 128 := by
  have := num_lt (l.drop 8) 8
  have := num_lt l 8
  unfold rd
  omega
end Go.Proofs.Ytnnoimikoddbcaa.Gf
