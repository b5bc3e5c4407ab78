/-
  The walks of the AES reference's Inverse, bit, Sub, Table.
  Conditions: bytes.
-/
import Derived.Test.YtnnoimikoddbcaaRef07
namespace Go.Proofs.Ytnnoimikoddbcaa.Ref07
open Go.ChangeShapes Go.WideShapes Go.ChangeAt Go.RowKit Go.Deep
open Go.Proofs.Ytnnoimikoddbcaa.Aes
def sqN (a : Nat) : Nat → Nat
  | 0 => a
  | n + 1 => mulB (sqN a n) (sqN a n)
def invN (a : Nat) : Nat → Nat
  | 0 => 1
  | n + 1 => mulB (invN a n) (sqN a (n + 1))
theorem sqN_lt {a : Nat} (h : a < 256) : ∀ n, sqN a n < 256
  | 0 => h
  | n + 1 => mulB_lt _ (sqN_lt h n)
theorem invN_lt (a : Nat) : ∀ n, invN a n < 256
  | 0 => by unfold invN; omega
  | n + 1 => mulB_lt _ (invN_lt a n)
theorem Inverse_any (a : Nat) (w : World) (ha : a < 256) : Calls Try.prog 74 #[.int .i64 a] w fun e w' => e = .returned (.int .i64 ((invN a 7 : Nat) : Int)) ∧ w = w' := by
  go_enter Try.func74, Try.ntmps74
  go_wp2
  go_loop [3, 4, 5] (fun s3 s4 s5 => ∃ i x o : Nat, i ≤ 7 ∧ s5 = .int .i64 i ∧ s3 = .int .i64 x ∧ s4 = .int .i64 o ∧ x = sqN a i ∧ o = invN a i) (fun _ _ s => 7 - (intOf s).toNat)
  case atStart => exact ⟨0, a, 1, by omega, rfl, rfl, rfl, rfl, rfl⟩
  case round =>
    obtain ⟨i, x, o, hi, rfl, rfl, rfl, hx, ho⟩ := hrel
    have hxl : x < 256 := by rw [hx]; exact sqN_lt ha i
    have hol : o < 256 := by rw [ho]; exact invN_lt a i
    have HX := Lib.hid hx
    have HO := Lib.hid ho
    clear hx ho
    by_cases h7 : i = 7
    · subst h7
      go_wp2
      go_ret
      exact ⟨by rw [← HO.out]; rfl, rfl⟩
    · have hlt : (i : Int) < 7 := by omega
      go_wp2_with fail
      refine Calls.mono (Times_any x x _ hxl hxl) ?_
      rintro _ _ ⟨rfl, rfl⟩
      have hx2 := mulB_lt x hxl
      go_wp2_with fail
      refine Calls.mono (Times_any o (mulB x x) _ hol hx2) ?_
      rintro _ _ ⟨rfl, rfl⟩
      go_wp2
      go_round
      case rel => exact ⟨i + 1, mulB x x, mulB o (mulB x x), by omega, by go_num, rfl, rfl, by rw [HX.out]; rfl, by rw [HO.out, HX.out]; rfl⟩
      case measure => simp [intOf]; omega
def bitR (a i : Nat) : Nat := a / 2 ^ i % 2
theorem bit_any (a i : Nat) (w : World) (ha : a < 256) (hi8 : i < 8) : Calls Try.prog 75 #[.int .i64 a, .int .i64 i] w fun e w' => e = .returned (.int .i64 ((bitR a i : Nat) : Int)) ∧ w = w' := by
  go_enter Try.func75, Try.ntmps75
  go_wp2
  go_loop [0, 5] (fun s0 s5 => ∃ k x : Nat, k ≤ i ∧ s5 = .int .i64 k ∧ s0 = .int .i64 x ∧ x = a / 2 ^ k) (fun _ s => 8 - (intOf s).toNat)
  case atStart => exact ⟨0, a, by omega, rfl, rfl, by simp⟩
  case round =>
    obtain ⟨k, x, hk, rfl, rfl, hx⟩ := hrel
    have hxl : x < 256 := by rw [hx]; exact Nat.lt_of_le_of_lt (Nat.div_le_self _ _) ha
    have HX := Lib.hid hx
    clear hx
    by_cases hki : k = i
    · have hlt : ¬ (k : Int) < (i : Int) := by omega
      have HR := Lib.hid (show ((x : Int) % 2) = ((bitR a i : Nat) : Int) by rw [HX.out, hki]; rfl)
      clear hki
      go_wp2
      go_ret
      exact ⟨by rw [← HR.out]; rfl, rfl⟩
    · have hlt : (k : Int) < (i : Int) := by omega
      go_wp2
      go_round
      case rel => exact ⟨k + 1, x / 2, by omega, by go_num, by simp, by rw [HX.out, Nat.div_div_eq_div_mul, Nat.pow_succ]⟩
      case measure => simp [intOf]; omega
def bR (x i : Nat) : Nat := (bitR x i + bitR x ((i + 4) % 8) + bitR x ((i + 5) % 8) + bitR x ((i + 6) % 8) + bitR x ((i + 7) % 8) + bitR 99 i) % 2
def subN (x : Nat) : Nat → Nat
  | 0 => 0
  | n + 1 => subN x n + bR x n * 2 ^ n
theorem subN_lt (x : Nat) : ∀ n, subN x n < 2 ^ n
  | 0 => by unfold subN; omega
  | n + 1 => by
    have h1 := subN_lt x n
    have h2 : bR x n < 2 := Nat.mod_lt _ (by omega)
    have h3 : bR x n * 2 ^ n ≤ 1 * 2 ^ n := Nat.mul_le_mul_right _ (by omega)
    rw [subN, Nat.pow_succ]
    omega
def subR (a : Nat) : Nat := subN (invN a 7) 8
theorem subR_lt (a : Nat) : subR a < 256 := subN_lt _ 8
theorem subR_all : (List.range 256).map subR = subT := by kernel_rfl
theorem subR_tab : tab subR 256 = subT := subR_all
set_option maxHeartbeats 800000 in
theorem Sub_any (a : Nat) (w : World) (ha : a < 256) : Calls Try.prog 64 #[.int .i64 a] w fun e w' => e = .returned (.int .i64 ((subR a : Nat) : Int)) ∧ w = w' := by
  have HI := Lib.hid (Inverse_any a w ha)
  have hx := invN_lt a 7
  have HR := Lib.hid (show subR a = subN (invN a 7) 8 from rfl)
  generalize subR a = res at *
  generalize invN a 7 = x at *
  go_enter Try.func64, Try.ntmps64
  go_wp2_with fail
  refine Calls.mono HI.out ?_
  rintro _ _ ⟨rfl, rfl⟩
  clear HI
  go_wp2
  go_loop [4, 5, 6, 7] (fun s4 s5 s6 _ => ∃ i o p : Nat, i ≤ 8 ∧ s6 = .int .i64 i ∧ s4 = .int .i64 o ∧ s5 = .int .i64 p ∧ o = subN x i ∧ p = 2 ^ i ∧ p ≤ 256 ∧ o < 256) (fun _ _ s _ => 8 - (intOf s).toNat)
  case atStart => exact ⟨0, 0, 1, by omega, rfl, rfl, rfl, rfl, rfl, by omega, by omega⟩
  case round =>
    obtain ⟨i, o, p, hi, rfl, rfl, rfl, ho, hp, hpl, hol⟩ := hrel
    have HO := Lib.hid ho
    have HP := Lib.hid hp
    clear ho hp
    by_cases h8 : i = 8
    · subst h8
      go_wp2
      go_ret
      exact ⟨by rw [HR.out, ← HO.out]; rfl, rfl⟩
    · have hlt : (i : Int) < 8 := by omega
      have hlt2 : i < 8 := by omega
      have e4 : ((i : Int) + 4) % 8 = (((i + 4) % 8 : Nat) : Int) := by omega
      have e5 : ((i : Int) + 5) % 8 = (((i + 5) % 8 : Nat) : Int) := by omega
      have e6 : ((i : Int) + 6) % 8 = (((i + 6) % 8 : Nat) : Int) := by omega
      have e7 : ((i : Int) + 7) % 8 = (((i + 7) % 8 : Nat) : Int) := by omega
      have B0 := Lib.hid fun W => bit_any x i W hx hlt2
      have B4 := Lib.hid fun W => bit_any x ((i + 4) % 8) W hx (Nat.mod_lt _ (by omega))
      have B5 := Lib.hid fun W => bit_any x ((i + 5) % 8) W hx (Nat.mod_lt _ (by omega))
      have B6 := Lib.hid fun W => bit_any x ((i + 6) % 8) W hx (Nat.mod_lt _ (by omega))
      have B7 := Lib.hid fun W => bit_any x ((i + 7) % 8) W hx (Nat.mod_lt _ (by omega))
      have B9 := Lib.hid (show ∀ W, Calls Try.prog 75 #[.int .i64 99, .int .i64 i] W fun e w' => e = .returned (.int .i64 ((bitR 99 i : Nat) : Int)) ∧ W = w' from fun W => bit_any 99 i W (by omega) hlt2)
      have HB := Lib.hid (show bR x i = (bitR x i + bitR x ((i + 4) % 8) + bitR x ((i + 5) % 8) + bitR x ((i + 6) % 8) + bitR x ((i + 7) % 8) + bitR 99 i) % 2 from rfl)
      have l0 : bitR x i < 2 := Nat.mod_lt _ (by omega)
      have l4 : bitR x ((i + 4) % 8) < 2 := Nat.mod_lt _ (by omega)
      have l5 : bitR x ((i + 5) % 8) < 2 := Nat.mod_lt _ (by omega)
      have l6 : bitR x ((i + 6) % 8) < 2 := Nat.mod_lt _ (by omega)
      have l7 : bitR x ((i + 7) % 8) < 2 := Nat.mod_lt _ (by omega)
      have l9 : bitR 99 i < 2 := Nat.mod_lt _ (by omega)
      generalize (i + 4) % 8 = i4 at *
      generalize (i + 5) % 8 = i5 at *
      generalize (i + 6) % 8 = i6 at *
      generalize (i + 7) % 8 = i7 at *
      generalize bitR x i = b0 at *
      generalize bitR x i4 = b4 at *
      generalize bitR x i5 = b5 at *
      generalize bitR x i6 = b6 at *
      generalize bitR x i7 = b7 at *
      generalize bitR 99 i = b9 at *
      have hm : ((b0 : Int) + b4 + b5 + b6 + b7 + b9) % 2 = (((b0 + b4 + b5 + b6 + b7 + b9) % 2 : Nat) : Int) := by omega
      have hml : (b0 + b4 + b5 + b6 + b7 + b9) % 2 < 2 := Nat.mod_lt _ (by omega)
      have HN := Lib.hid (show subN x (i + 1) = subN x i + bR x i * 2 ^ i from rfl)
      have HL := Lib.hid (subN_lt x (i + 1))
      go_wp2_with fail
      refine Calls.mono (B0.out _) ?_
      rintro _ _ ⟨rfl, rfl⟩
      go_wp2_with fail
      refine Calls.mono (B4.out _) ?_
      rintro _ _ ⟨rfl, rfl⟩
      go_wp2_with fail
      refine Calls.mono (B5.out _) ?_
      rintro _ _ ⟨rfl, rfl⟩
      go_wp2_with fail
      refine Calls.mono (B6.out _) ?_
      rintro _ _ ⟨rfl, rfl⟩
      go_wp2_with fail
      refine Calls.mono (B7.out _) ?_
      rintro _ _ ⟨rfl, rfl⟩
      go_wp2_with fail
      refine Calls.mono (B9.out _) ?_
      rintro _ _ ⟨rfl, rfl⟩
      generalize hmm : (b0 + b4 + b5 + b6 + b7 + b9) % 2 = m at *
      have HMM := Lib.hid hmm
      clear hmm
      have hmp : (m : Int) * (p : Int) = ((m * p : Nat) : Int) := by simp
      have hmpl : m * p ≤ 256 := Nat.le_trans (Nat.mul_le_mul (show m ≤ 1 by omega) hpl) (by omega)
      have HMP : ∃ q, q = m * p := ⟨_, rfl⟩
      obtain ⟨q, hq⟩ := HMP
      rw [← hq] at hmp hmpl
      have HQ := Lib.hid hq
      clear hq
      go_wp2
      go_round
      case rel =>
        have hn := HN.out
        rw [HB.out, ← HO.out, ← HP.out, ← HQ.out] at hn
        have hl := HL.out
        have hi1 : 2 ^ (i + 1) ≤ 2 ^ 8 := Nat.pow_le_pow_right (by omega) (by omega)
        refine ⟨i + 1, o + q, p * 2, by omega, by go_num, by simp, by simp, hn.symm, by rw [HP.out, Nat.pow_succ], ?_, ?_⟩
        · rw [HP.out, ← Nat.pow_succ]; exact hi1
        · omega
      case measure => simp [intOf]; omega
end Go.Proofs.Ytnnoimikoddbcaa.Ref07
