/-
  The walk of gcm's polynomials: add, shift, times.
  Conditions: the numbers are below 2^128.
-/
import Derived.Test.YtnnoimikoddbcaaField
import Derived.Laws.Bits64b
import Derived.Deep.OwnRows
namespace Go.Proofs.Ytnnoimikoddbcaa.Gf
open Go.ChangeShapes Go.WideShapes Go.ChangeAt Go.RowKit Go.Deep
open Go.Proofs.Ytnnoimikoddbcaa.Field (X mul one R)
def hiW (e : Nat) : Nat := e >>> 64
def loW (e : Nat) : Nat := e % 2 ^ 64
theorem hiW_lt {e : Nat} (h : e < 2 ^ 128) : hiW e < 18446744073709551616 := by unfold hiW; rw [Nat.shiftRight_eq_div_pow]; omega
theorem loW_lt (e : Nat) : loW e < 18446744073709551616 := by unfold loW; omega
theorem hiW_xor (a b : Nat) : hiW (a ^^^ b) = hiW a ^^^ hiW b := Nat.shiftRight_xor_distrib
theorem loW_xor (a b : Nat) : loW (a ^^^ b) = loW a ^^^ loW b := Nat.xor_mod_two_pow
theorem hiW_R : hiW R = 16212958658533785600 := by decide
theorem loW_R : loW R = 0 := by decide
theorem hiW_half (e : Nat) : hiW (e >>> 1) = hiW e / 2 := by
  unfold hiW
  simp only [Nat.shiftRight_eq_div_pow]
  omega
theorem loW_half (e : Nat) : loW (e >>> 1) = (hiW e * 9223372036854775808 % 18446744073709551616) ||| (loW e / 2) := by
  have h1 : hiW e * 9223372036854775808 % 18446744073709551616 = (hiW e % 2) * 2 ^ 63 := by omega
  have h2 : loW e / 2 < 2 ^ 63 := by unfold loW; omega
  rw [h1, Nat.mul_comm, ← Nat.two_pow_add_eq_or_of_lt h2]
  unfold loW hiW
  simp only [Nat.shiftRight_eq_div_pow]
  omega
theorem odd_bit (e : Nat) : (loW e &&& 1) = if e.testBit 0 then 1 else 0 := by
  rw [Nat.and_one_is_mod]
  unfold loW
  rw [Nat.testBit_zero]
  by_cases h : e % 2 = 1 <;> simp [h] <;> omega
def el (e : Nat) : Value := .agg #[.int .u64 (hiW e), .int .u64 (loW e)]
theorem add_any (a b : Nat) (w : World) (ha : a < 2 ^ 128) (hb : b < 2 ^ 128) : Calls Try.prog 29 #[el a, el b] w fun e w' => e = .returned (el (a ^^^ b)) ∧ Below w.heap.size w w' := by
  have h1 : bits .xor .u64 (hiW a : Int) (hiW b : Int) = ((hiW (a ^^^ b) : Nat) : Int) := by rw [bits_xor_u64_nat _ _ (hiW_lt ha) (hiW_lt hb), hiW_xor]
  have h2 : bits .xor .u64 (loW a : Int) (loW b : Int) = ((loW (a ^^^ b) : Nat) : Int) := by rw [bits_xor_u64_nat _ _ (loW_lt _) (loW_lt _), loW_xor]
  unfold el
  clear ha hb
  generalize hiW (a ^^^ b) = hc at *
  generalize loW (a ^^^ b) = lc at *
  generalize hiW a = h at *
  generalize loW a = l at *
  generalize hiW b = h' at *
  generalize loW b = l' at *
  go_enter Try.func29, Try.ntmps29
  go_wp2
  exact bodyPost_ret (v := .agg #[.int .u64 hc, .int .u64 lc]) (by simp [results, Try.results29, go_sem]) rfl ⟨rfl, by ((repeat' (with_reducible first | exact Below.refl _ _ | assumption | refine Below.drew ?_ | refine below_drewN ?_ _ | refine Below.setCell ?_ ?_ _ | refine Below.alloc ?_ ?_ _ | refine Below.ext ?_ ?_ _ | refine Below.trans ?_ (Below.mono ‹_› ?_))) <;> first | omega | (simp; done) | (simp; omega))⟩
theorem shift_any (e : Nat) (w : World) (he : e < 2 ^ 128) : Calls Try.prog 38 #[el e] w fun r w' => r = .returned (el (X e)) ∧ Below w.heap.size w w' := by
  have ho := odd_bit e
  have h0 : bits .and .u64 (loW e : Int) 1 = ((loW e &&& 1 : Nat) : Int) := bits_and_u64_nat _ 1 (loW_lt _) (by omega)
  have hl : bits .or .u64 (IntKind.u64.wrap ((hiW e : Int) * 9223372036854775808)) ((loW e : Int) / 2) = ((loW (X e) : Nat) : Int) := by
    have e1 : IntKind.u64.wrap ((hiW e : Int) * 9223372036854775808) = ((hiW e * 9223372036854775808 % 18446744073709551616 : Nat) : Int) := by rw [IntKind.wrap_u64]; omega
    have e2 : ((loW e : Int) / 2) = ((loW e / 2 : Nat) : Int) := by omega
    have := loW_lt e
    rw [e1, e2, bits_or_u64_nat _ _ (by omega) (by omega), ← loW_half]
    unfold X
    rw [loW_xor]
    cases e.testBit 0 <;> simp [Field.iff, loW_R, show loW 0 = 0 from rfl]
  have hx := hiW_lt he
  cases hb : e.testBit 0
  · have hh : ((hiW e : Int) / 2) = ((hiW (X e) : Nat) : Int) := by
      unfold X
      rw [hiW_xor, hb, hiW_half]
      simp [Field.iff, show hiW 0 = 0 from rfl]
    rw [hb] at ho
    rw [ho] at h0
    have h3 : (bits BinOp.and .u64 (loW e : Int) 1 == 1) = false := by rw [h0]; rfl
    unfold el
    clear ho h0 hx he hb
    generalize hiW (X e) = hc at *
    generalize loW (X e) = lc at *
    generalize hiW e = h at *
    generalize loW e = l at *
    go_enter Try.func38, Try.ntmps38
    go_wp2
    exact bodyPost_ret (v := .agg #[.int .u64 hc, .int .u64 lc]) (by simp [results, Try.results38, go_sem]) rfl ⟨rfl, by ((repeat' (with_reducible first | exact Below.refl _ _ | assumption | refine Below.drew ?_ | refine below_drewN ?_ _ | refine Below.setCell ?_ ?_ _ | refine Below.alloc ?_ ?_ _ | refine Below.ext ?_ ?_ _ | refine Below.trans ?_ (Below.mono ‹_› ?_))) <;> first | omega | (simp; done) | (simp; omega))⟩
  · have hh : bits .xor .u64 ((hiW e : Int) / 2) 16212958658533785600 = ((hiW (X e) : Nat) : Int) := by
      have e2 : ((hiW e : Int) / 2) = ((hiW e / 2 : Nat) : Int) := by omega
      rw [e2]
      refine (bits_xor_u64_nat _ 16212958658533785600 (by omega) (by omega)).trans ?_
      unfold X
      rw [hiW_xor, hb, hiW_half]
      simp [Field.iff, hiW_R]
    rw [hb] at ho
    rw [ho] at h0
    have h3 : (bits BinOp.and .u64 (loW e : Int) 1 == 1) = true := by rw [h0]; rfl
    unfold el
    clear ho h0 hx he hb
    generalize hiW (X e) = hc at *
    generalize loW (X e) = lc at *
    generalize hiW e = h at *
    generalize loW e = l at *
    go_enter Try.func38, Try.ntmps38
    go_wp2
    exact bodyPost_ret (v := .agg #[.int .u64 hc, .int .u64 lc]) (by simp [results, Try.results38, go_sem]) rfl ⟨rfl, by ((repeat' (with_reducible first | exact Below.refl _ _ | assumption | refine Below.drew ?_ | refine below_drewN ?_ _ | refine Below.setCell ?_ ?_ _ | refine Below.alloc ?_ ?_ _ | refine Below.ext ?_ ?_ _ | refine Below.trans ?_ (Below.mono ‹_› ?_))) <;> first | omega | (simp; done) | (simp; omega))⟩
end Go.Proofs.Ytnnoimikoddbcaa.Gf
