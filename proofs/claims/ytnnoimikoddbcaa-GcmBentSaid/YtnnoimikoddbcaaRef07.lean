/-
  The walks of the AES reference's Times, Inverse, bit, Sub, Table.
  Conditions: bytes.
-/
import Derived.Test.YtnnoimikoddbcaaBlk
import Derived.Test.YtnnoimikoddbcaaGf9
namespace Go.Proofs.Ytnnoimikoddbcaa.Ref07
open Go.ChangeShapes Go.WideShapes Go.ChangeAt Go.RowKit Go.Deep
open Go.Proofs.Ytnnoimikoddbcaa.Aes
theorem i64_xor_nat (a b : Nat) (ha : a < 4294967296) (hb : b < 4294967296) : bits .xor .i64 (a : Int) (b : Int) = ((a ^^^ b : Nat) : Int) := by
  have hx : a ^^^ b < 2 ^ 32 := Nat.xor_lt_two_pow (by omega) (by omega)
  have h1 : ∀ n : Nat, n < 4294967296 → (BitVec.ofInt 64 (n : Int)).toNat = n := fun n hn => by
    simp; omega
  show IntKind.i64.wrap ((BitVec.ofInt 64 (a : Int) ^^^ BitVec.ofInt 64 (b : Int)).toNat : Int) = _
  rw [BitVec.toNat_xor, h1 a ha, h1 b hb]
  generalize a ^^^ b = c at *
  simp [IntKind.wrap, IntKind.bits, IntKind.signed]
  omega
/-- Twice, divided by 283. -/
def rt (a : Nat) : Nat := if 256 ≤ a * 2 then a * 2 ^^^ 283 else a * 2
def rmulGo : Nat → Nat → Nat → Nat → Nat
  | 0, _, _, o => o
  | n + 1, a, b, o => rmulGo n (rt a) (b / 2) (if b % 2 = 1 then o ^^^ a else o)
theorem rt_all : (List.range 256).map rt = (List.range 256).map xt := by kernel_rfl
theorem rt_xt {a : Nat} (h : a < 256) : rt a = xt a := by
  have := congrArg (fun l => l[a]?) rt_all
  simpa [h] using this
theorem rmulGo_zero : ∀ n a o, rmulGo n a 0 o = o
  | 0, _, _ => rfl
  | n + 1, a, o => by rw [rmulGo, if_neg (by omega)]; exact rmulGo_zero n _ o
theorem rmulGo_eq : ∀ n a b o, a < 256 → rmulGo n a b o = mulGo n a b o
  | 0, _, _, _, _ => rfl
  | n + 1, a, b, o, h => by
    by_cases h0 : b = 0
    · subst h0; rw [rmulGo_zero, mulGo_zero]
    · rw [rmulGo, rt_xt h, rmulGo_eq n _ _ _ (xt_lt h)]
      by_cases h1 : b % 2 = 1
      · rw [if_pos h1, mulGo_odd h1]
      · rw [if_neg h1, mulGo_even h1 h0]
theorem Times_any (a b : Nat) (w : World) (ha : a < 256) (hb : b < 256) : Calls Try.prog 65 #[.int .i64 a, .int .i64 b] w fun e w' => e = .returned (.int .i64 ((mulB a b : Nat) : Int)) ∧ w = w' := by
  go_enter Try.func65, Try.ntmps65
  go_wp2
  go_loop [0, 1, 5, 6] (fun s0 s1 s5 s6 => ∃ i x y o : Nat, i ≤ 8 ∧ s6 = .int .i64 i ∧ s0 = .int .i64 x ∧ s1 = .int .i64 y ∧ s5 = .int .i64 o ∧ x < 256 ∧ o < 256 ∧ y < 256 ∧ mulGo (8 - i) x y o = mulB a b) (fun _ _ _ s => 8 - (intOf s).toNat)
  case atStart => exact ⟨0, a, b, 0, by omega, rfl, rfl, rfl, rfl, ha, by omega, hb, rfl⟩
  case round =>
    obtain ⟨i, x, y, o, hi, rfl, rfl, rfl, rfl, hx, ho, hy, hm⟩ := hrel
    by_cases h8 : i = 8
    · have hlt : ¬ (i : Int) < 8 := by omega
      have HM := Lib.hid (show o = mulB a b by rw [← hm, h8]; rfl)
      clear hm h8
      go_wp2
      go_ret
      exact ⟨by rw [← HM.out]; rfl, rfl⟩
    · have hlt : (i : Int) < 8 := by omega
      rw [← rmulGo_eq _ _ _ _ hx, show 8 - i = (8 - (i + 1)) + 1 by omega, rmulGo, rt_xt hx, rmulGo_eq _ _ _ _ (xt_lt hx)] at hm
      have HM := Lib.hid hm
      have HX := Lib.hid (rt_xt hx)
      clear hm h8
      have hxx := i64_xor_nat o x (by omega) (by omega)
      have hx2 := i64_xor_nat (x * 2) 283 (by omega) (by omega)
      rw [show ((x * 2 : Nat) : Int) = (x : Int) * 2 by omega] at hx2
      have HXX := Lib.hid hxx
      have HX2 := Lib.hid hx2
      have hxo := xor_lt ho hx
      have hxl := xt_lt hx
      have HXO := Lib.hid hxo
      have HXL := Lib.hid hxl
      clear hxx hx2 hxo hxl
      rcases Nat.mod_two_eq_zero_or_one y with hy1 | hy1
      all_goals
        have hy1i : (y : Int) % 2 = ((y % 2 : Nat) : Int) := by omega
        rw [hy1] at hy1i
        have HY := Lib.hid hy1
        clear hy1
        by_cases h2 : 256 ≤ (x : Int) * 2
        all_goals
          have HH := Lib.hid h2
          go_wp2
          go_round
          case rel =>
            have hh := HH.out
            have hm := HM.out
            rw [HY.out] at hm
            refine ⟨i + 1, xt x, y / 2, _, by omega, by go_num, ?_, by simp, ?_, HXL.out, ?_, by omega, hm⟩
            · rw [← HX.out]
              unfold rt
              first
                | rw [if_pos (by omega)]; exact congrArg _ HX2.out
                | rw [if_neg (by omega)]; simp
            · first
                | rfl
                | exact congrArg _ HXX.out
            · first
                | exact ho
                | exact HXO.out
          case measure => simp [intOf]; omega
end Go.Proofs.Ytnnoimikoddbcaa.Ref07
