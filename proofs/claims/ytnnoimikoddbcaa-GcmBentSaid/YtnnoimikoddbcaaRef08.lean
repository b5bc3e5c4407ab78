/-
  The reference for products of blocks, in plain lists: a polynomial as 128 bits, that of x^0 first.
  Conditions: none.
-/
import Derived.Test.YtnnoimikoddbcaaGf13
namespace Go.Proofs.Ytnnoimikoddbcaa.Ref08
open Go.ChangeShapes Go.WideShapes Go.ChangeAt Go.RowKit Go.Deep Go.Proofs.Ytnnoimikoddbcaa.Gf
open Go.Proofs.Ytnnoimikoddbcaa.Field (X mul one R)
open Go.Proofs.Ytnnoimikoddbcaa.Aes (byteF byteF_lt)
/-- The coefficient of x^n. -/
def bitP (e n : Nat) : Nat := if e.testBit (127 - n) then 1 else 0
def polyL (e : Nat) : List Nat := tab (bitP e) 128
theorem polyL_length (e : Nat) : (polyL e).length = 128 := tab_length _ _
theorem polyL_get (e n : Nat) (h : n < 128) : (polyL e).getD n 0 = bitP e n := tab_get _ _ _ h
theorem bitP_lt (e n : Nat) : bitP e n < 2 := by unfold bitP; split <;> omega
theorem bitP_xor (a b n : Nat) : bitP (a ^^^ b) n = bitP a n ^^^ bitP b n := by
  unfold bitP
  rw [Nat.testBit_xor]
  cases a.testBit (127 - n) <;> cases b.testBit (127 - n) <;> rfl
theorem bitP_zero (n : Nat) : bitP 0 n = 0 := by simp [bitP]
/-- The bit of a byte. -/
theorem bit_of (b k : Nat) : b / 2 ^ k % 2 = if b.testBit k then 1 else 0 := by
  rw [Nat.testBit_eq_decide_div_mod_eq]
  have : b / 2 ^ k % 2 < 2 := Nat.mod_lt _ (by omega)
  by_cases h : b / 2 ^ k % 2 = 1
  · simp [h]
  · simp [h]; omega
theorem num_bit (l : List UInt8) : ∀ i j, j < 8 * i → (num l i).testBit j = (l.getD (i - 1 - j / 8) 0).toNat.testBit (j % 8)
  | 0, j, h => by omega
  | i + 1, j, h => by
    show (num l i * 256 + (l.getD i 0).toNat).testBit j = _
    rw [Nat.mul_comm, show (256 : Nat) = 2 ^ 8 from rfl, Nat.testBit_two_pow_mul_add _ (l.getD i 0).toNat_lt]
    by_cases hj : j < 8
    · rw [if_pos hj, show i + 1 - 1 - j / 8 = i by omega, show j % 8 = j by omega]
    · rw [if_neg hj, num_bit l i (j - 8) (by omega), show i - 1 - (j - 8) / 8 = i + 1 - 1 - j / 8 by omega, show (j - 8) % 8 = j % 8 by omega]
theorem rd_bit (l : List UInt8) (n : Nat) (h : n < 128) : bitP (rd l) n = byteF l (n / 8) / 2 ^ (7 - n % 8) % 2 := by
  rw [bit_of]
  unfold bitP
  have e : (rd l).testBit (127 - n) = (byteF l (n / 8)).testBit (7 - n % 8) := by
    unfold rd
    rw [Nat.mul_comm, Nat.testBit_two_pow_mul_add _ (num_lt (l.drop 8) 8)]
    by_cases hn : 127 - n < 64
    · rw [if_pos hn, num_bit _ _ _ (by omega)]
      unfold byteF
      rw [show (l.drop 8).getD (8 - 1 - (127 - n) / 8) 0 = l.getD (n / 8) 0 by
        simp only [List.getD, List.getElem?_drop]; rw [show 8 + (8 - 1 - (127 - n) / 8) = n / 8 by omega], show (127 - n) % 8 = 7 - n % 8 by omega]
    · rw [if_neg hn, num_bit _ _ _ (by omega)]
      unfold byteF
      rw [show 8 - 1 - (127 - n - 64) / 8 = n / 8 by omega, show (127 - n - 64) % 8 = 7 - n % 8 by omega]
  rw [e]
/-- A polynomial times x, coefficient by coefficient. -/
def shF (e n : Nat) : Nat := (if n = 0 then 0 else bitP e (n - 1)) ^^^ (if n = 0 ∨ n = 1 ∨ n = 2 ∨ n = 7 then bitP e 127 else 0)
theorem R_bit : ∀ n : Nat, n < 128 → R.testBit (127 - n) = decide (n = 0 ∨ n = 1 ∨ n = 2 ∨ n = 7) := by decide
theorem bitP_X {e n : Nat} (he : e < 2 ^ 128) (h : n < 128) : bitP (X e) n = shF e n := by
  unfold X
  rw [bitP_xor]
  unfold shF
  have h1 : bitP (e >>> 1) n = if n = 0 then 0 else bitP e (n - 1) := by
    unfold bitP
    rw [Nat.testBit_shiftRight]
    by_cases h0 : n = 0
    · subst h0
      have : e.testBit (1 + (127 - 0)) = false := Nat.testBit_lt_two_pow (by simpa using he)
      simp [this]
    · rw [if_neg h0, show 1 + (127 - n) = 127 - (n - 1) by omega]
  have h2 : bitP (Field.iff (e.testBit 0) R) n = if n = 0 ∨ n = 1 ∨ n = 2 ∨ n = 7 then bitP e 127 else 0 := by
    have hb : bitP e 127 = if e.testBit 0 then 1 else 0 := rfl
    rw [hb]
    unfold Field.iff bitP
    cases e.testBit 0
    · simp
    · simp only [if_true, R_bit n h, decide_eq_true_eq]
  rw [h1, h2]
theorem polyL_xor (a b : Nat) : polyL (a ^^^ b) = tab (fun n => bitP a n ^^^ bitP b n) 128 := by
  unfold polyL
  congr 1
  funext n
  exact bitP_xor a b n
end Go.Proofs.Ytnnoimikoddbcaa.Ref08
