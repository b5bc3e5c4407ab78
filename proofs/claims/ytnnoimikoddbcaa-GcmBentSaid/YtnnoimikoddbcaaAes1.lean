/-
  AES: the walk of its bytes: Times, RotateLeft8, affine.
  Conditions: bytes.
-/
import Derived.Test.YtnnoimikoddbcaaArr
import Derived.Test.YtnnoimikoddbcaaGf
import Derived.Laws.BitsAllLaws
namespace Go.Proofs.Ytnnoimikoddbcaa.Aes
open Go.ChangeShapes Go.WideShapes Go.ChangeAt Go.RowKit Go.Deep
/-- A byte times x. -/
def xt (a : Nat) : Nat := a * 2 % 256 ^^^ a / 128 * 27
def mulGo : Nat → Nat → Nat → Nat → Nat
  | 0, _, _, o => o
  | n + 1, a, b, o => if b = 0 then o else mulGo n (xt a) (b / 2) (if b % 2 = 1 then o ^^^ a else o)
/-- A product of bytes. -/
def mulB (a b : Nat) : Nat := mulGo 8 a b 0
theorem xor_lt {a b : Nat} (ha : a < 256) (hb : b < 256) : a ^^^ b < 256 := Nat.xor_lt_two_pow (n := 8) ha hb
theorem xt_lt {a : Nat} (ha : a < 256) : xt a < 256 := xor_lt (by omega) (by omega)
theorem mulGo_zero (n a o : Nat) : mulGo n a 0 o = o := by cases n <;> rfl
theorem mulGo_lt : ∀ n a b o, a < 256 → o < 256 → mulGo n a b o < 256
  | 0, _, _, _, _, h => h
  | n + 1, a, b, o, ha, ho => by
    unfold mulGo
    split
    · exact ho
    · exact mulGo_lt n _ _ _ (xt_lt ha) (by split; exact xor_lt ho ha; exact ho)
theorem mulB_lt {a : Nat} (b : Nat) (ha : a < 256) : mulB a b < 256 := mulGo_lt 8 a b 0 ha (by omega)
theorem mulGo_odd {n a b o : Nat} (h : b % 2 = 1) : mulGo (n + 1) a b o = mulGo n (xt a) (b / 2) (o ^^^ a) := by
  rw [mulGo, if_neg (by omega), if_pos h]
theorem mulGo_even {n a b o : Nat} (h : ¬ b % 2 = 1) (h0 : ¬ b = 0) : mulGo (n + 1) a b o = mulGo n (xt a) (b / 2) o := by
  rw [mulGo, if_neg h0, if_neg h]
theorem step_x {x : Nat} (hx : x < 256) : bits .xor .u8 ((x : Int) * 2 % 256) ((x : Int) / 128 * 27) = ((xt x : Nat) : Int) := by
  rw [show (x : Int) * 2 % 256 = ((x * 2 % 256 : Nat) : Int) by omega, show (x : Int) / 128 * 27 = ((x / 128 * 27 : Nat) : Int) by omega]
  exact u8_xor_nat _ _ (by omega) (by omega)
theorem Times_any (a b : Nat) (w : World) (ha : a < 256) (hb : b < 256) : Calls Try.prog 71 #[.int .u8 a, .int .u8 b] w fun e w' => e = .returned (.int .u8 ((mulB a b : Nat) : Int)) ∧ w = w' := by
  go_enter Try.func71, Try.ntmps71
  go_wp2
  go_loop [0, 1, 5] (fun s0 s1 s5 => ∃ n x y o : Nat, s0 = .int .u8 x ∧ s1 = .int .u8 y ∧ s5 = .int .u8 o ∧ x < 256 ∧ o < 256 ∧ y < 2 ^ n ∧ y < 256 ∧ mulGo n x y o = mulB a b) (fun _ s _ => (intOf s).toNat)
  case atStart => exact ⟨8, a, b, 0, rfl, rfl, rfl, ha, by omega, by omega, hb, rfl⟩
  case round =>
    obtain ⟨n, x, y, o, rfl, rfl, rfl, hx, ho, hy, hy2, hm⟩ := hrel
    by_cases h0 : y = 0
    · subst h0
      rw [mulGo_zero] at hm
      have HM := Lib.hid hm
      clear hm
      go_wp2
      go_ret
      exact ⟨by rw [HM.out]; rfl, rfl⟩
    · obtain ⟨m, rfl⟩ : ∃ m, n = m + 1 := ⟨n - 1, by rcases n with _ | n <;> omega⟩
      have h0' : ¬ (y : Int) = 0 := by omega
      have hx1 := u8_and_nat y 1 hy2 (by omega)
      rw [nat_mask1] at hx1
      have hy3 : y / 2 < 2 ^ m := by rw [Nat.pow_succ] at hy; omega
      by_cases hb2 : y % 2 = 1
      · rw [mulGo_odd hb2] at hm
        have HM := Lib.hid hm
        have hc : bits .and .u8 (y : Int) 1 = 1 := by rw [hb2] at hx1; exact hx1
        clear hm hx1
        go_wp2
        go_round
        case rel => exact ⟨m, xt x, y / 2, o ^^^ x, by rw [step_x hx], by simp, by rw [u8_xor_nat o x ho hx], xt_lt hx, xor_lt ho hx, hy3, by omega, HM.out⟩
        case measure => simp [intOf]; omega
      · rw [mulGo_even hb2 h0] at hm
        have HM := Lib.hid hm
        have hc : bits .and .u8 (y : Int) 1 = 0 := by rw [show y % 2 = 0 by omega] at hx1; exact hx1
        clear hm hx1
        go_wp2
        go_round
        case rel => exact ⟨m, xt x, y / 2, o, by rw [step_x hx], by simp, rfl, xt_lt hx, ho, hy3, by omega, HM.out⟩
        case measure => simp [intOf]; omega
/-- A byte turned left. -/
def rotB (b i : Nat) : Nat := b * 2 ^ i % 256 ||| b / 2 ^ (8 - i)
theorem rotB_lt {b i : Nat} (hb : b < 256) : rotB b i < 256 := Nat.or_lt_two_pow (n := 8) (by omega) (Nat.lt_of_le_of_lt (Nat.div_le_self _ _) hb)
theorem Rot_any (b i : Nat) (w : World) (hb : b < 256) (hi : i < 8) : Calls Try.prog 77 #[.int .u8 b, .int .i64 i] w fun e w' => e = .returned (.int .u8 ((rotB b i : Nat) : Int)) ∧ w = w' := by
  have h7 : bits .and .u64 (i : Int) 7 = (i : Int) := by
    have h := bits_and_u64_nat i 7 (by omega) (by omega)
    rw [nat_mask3, Nat.mod_eq_of_lt hi] at h
    exact h
  have h8 : (i : Int) ≤ 8 := by omega
  have h9 : i ≤ 8 := by omega
  go_enter Try.func77, Try.ntmps77
  go_wp2
  go_ret
  refine ⟨ret_int ?_, rfl⟩
  have e1 : (b : Int) * 2 ^ i % 256 = ((b * 2 ^ i % 256 : Nat) : Int) := by simp
  have e2 : (b : Int) / 2 ^ (8 - i) = ((b / 2 ^ (8 - i) : Nat) : Int) := by simp
  rw [e1, e2]
  exact u8_or_nat _ _ (by omega) (Nat.lt_of_le_of_lt (Nat.div_le_self _ _) hb)
/-- The affine turn of a byte, step by step. -/
def affI (b : Nat) : Nat → Nat
  | 0 => b ^^^ 99
  | n + 1 => affI b n ^^^ rotB b (n + 1)
def aff (b : Nat) : Nat := affI b 4
theorem affI_lt {b : Nat} (hb : b < 256) : ∀ n, affI b n < 256
  | 0 => xor_lt hb (by omega)
  | n + 1 => xor_lt (affI_lt hb n) (rotB_lt hb)
theorem aff_lt {b : Nat} (hb : b < 256) : aff b < 256 := affI_lt hb 4
theorem affine_any (b : Nat) (w : World) (hb : b < 256) : Calls Try.prog 70 #[.int .u8 b] w fun e w' => e = .returned (.int .u8 ((aff b : Nat) : Int)) ∧ w = w' := by
  have hx0 := u8_xor_nat b 99 hb (by omega)
  have HR := Lib.hid fun i (hi : i < 8) (W : World) => Rot_any b i W hb hi
  go_enter Try.func70, Try.ntmps70
  go_wp2
  go_loop [3, 4] (fun s3 s4 => ∃ n : Nat, n ≤ 4 ∧ s4 = .int .i64 (n + 1) ∧ s3 = .int .u8 (affI b n)) (fun _ s => 5 - (intOf s).toNat)
  case atStart => exact ⟨0, by omega, rfl, by rw [show (affI b 0 : Nat) = b ^^^ 99 from rfl, ← hx0]; rfl⟩
  case round =>
    obtain ⟨n, hn, rfl, rfl⟩ := hrel
    clear hx0
    by_cases h4 : n = 4
    · subst h4
      go_wp2
      go_ret
      exact ⟨rfl, rfl⟩
    · have hlt : (n : Int) + 1 ≤ 4 := by omega
      have hx := u8_xor_nat (affI b n) (rotB b (n + 1)) (affI_lt hb n) (rotB_lt hb)
      have hr : ∀ W, Calls Try.prog 77 #[.int .u8 b, .int .i64 ((n : Int) + 1)] W fun e w' => e = .returned (.int .u8 ((rotB b (n + 1) : Nat) : Int)) ∧ W = w' := fun W => HR.out (n + 1) (by omega) W
      have HR2 := Lib.hid hr
      have HX := Lib.hid hx
      clear hr hx
      go_wp2_with fail
      refine Calls.mono (HR2.out _) ?_
      rintro _ _ ⟨rfl, rfl⟩
      go_wp2
      go_round
      case rel => exact ⟨n + 1, by omega, by go_num, by rw [HX.out]; rfl⟩
      case measure => simp [intOf]; omega
end Go.Proofs.Ytnnoimikoddbcaa.Aes
