/-
  The walk of gcm's product of polynomials.
  Conditions: the numbers are below 2^128.
-/
import Derived.Test.YtnnoimikoddbcaaGf
namespace Go.Proofs.Ytnnoimikoddbcaa.Gf
open Go.ChangeShapes Go.WideShapes Go.ChangeAt Go.RowKit Go.Deep
open Go.Proofs.Ytnnoimikoddbcaa.Field (X mul one R)
/-- The first factor, its first i bits gone. -/
def gone (a i : Nat) : Nat := a * 2 ^ i % 2 ^ 128
theorem gone_zero {a : Nat} (h : a < 2 ^ 128) : gone a 0 = a := by unfold gone; omega
theorem gone_lt (a i : Nat) : gone a i < 2 ^ 128 := Nat.mod_lt _ (by decide)
theorem gone_next (a i : Nat) : gone a (i + 1) = gone a i * 2 % 2 ^ 128 := by
  unfold gone
  rw [Nat.pow_succ, ← Nat.mul_assoc, Nat.mod_mul_mod]
theorem gone_bit {a : Nat} (i : Nat) (hi : i < 128) : (gone a i).testBit 127 = a.testBit (127 - i) := by
  unfold gone
  rw [Nat.testBit_mod_two_pow, Nat.mul_comm, Nat.testBit_two_pow_mul]
  simp; omega
theorem top_bit {e : Nat} (h : e < 2 ^ 128) : hiW e / 9223372036854775808 = if e.testBit 127 then 1 else 0 := by
  have h1 : e.testBit 127 = decide (e / 2 ^ 127 % 2 = 1) := Nat.testBit_eq_decide_div_mod_eq
  rw [h1]
  unfold hiW
  rw [Nat.shiftRight_eq_div_pow]
  by_cases h2 : e / 2 ^ 127 % 2 = 1 <;> simp only [h2, decide_true, decide_false, if_true, if_false, Bool.false_eq_true] <;> omega
theorem lo_dbl (e : Nat) : loW (e * 2 % 2 ^ 128) = loW e * 2 % 18446744073709551616 := by unfold loW; omega
theorem hi_dbl {e : Nat} (_h : e < 2 ^ 128) : hiW (e * 2 % 2 ^ 128) = (hiW e * 2 % 18446744073709551616) ||| (loW e / 9223372036854775808) := by
  have h2 : loW e / 9223372036854775808 < 2 ^ 1 := by unfold loW; omega
  have h1 : hiW e * 2 % 18446744073709551616 = 2 ^ 1 * (hiW e % 2 ^ 63) := by omega
  rw [h1, ← Nat.two_pow_add_eq_or_of_lt h2]
  unfold loW hiW
  simp only [Nat.shiftRight_eq_div_pow]
  omega
def cs (e : Nat) : Array Value := #[.int .u64 (hiW e), .int .u64 (loW e)]
/-- The world of the loop. -/
def room (w : World) (t : TypeId) (e f o : Nat) : World := (((w.alloc (.cells (cs e) t)).alloc (.cells (cs f) t)).alloc (.cells (cs 0) t)).alloc (.cells (cs o) t)
set_option maxRecDepth 100000 in
theorem times_any (a b : Nat) (w : World) (ha : a < 2 ^ 128) (hb : b < 2 ^ 128) : Calls Try.prog 25 #[el a, el b] w fun r w' => r = .returned (el (mul a b)) ∧ Below w.heap.size w w' := by
  have hm : ∀ o, o = mul a b → True := fun _ _ => trivial
  go_enter Try.func25, Try.ntmps25
  unfold el
  go_wp2
  go_loopw [8] (fun s8 wr => ∃ (i : Nat) (u : Xt) (e f o : Nat), i ≤ 128 ∧ s8 = .int .i64 i ∧ wr = ext (room w 49 e f o) u ∧ e = gone a i ∧ (i < 128 → f = Field.Xn i b) ∧ f < 2 ^ 128 ∧ o = Field.mulN a b i) (fun s _ => 128 - (intOf s).toNat)
  case atStart => exact ⟨0, ⟨#[], w.drawn⟩, a, b, 0, by omega, rfl, rfl, (gone_zero ha).symm, fun _ => rfl, hb, rfl⟩
  case round =>
    obtain ⟨i, u, e, f, o, hi, rfl, rfl, he, hf, hfl, ho⟩ := hrel
    by_cases h128 : i = 128
    · subst h128
      unfold room cs
      have HO := Lib.hid ho
      clear he hf hfl ho
      go_wp2
      exact bodyPost_ret (v := .agg #[.int .u64 (hiW o), .int .u64 (loW o)]) (by simp [results, Try.results25, go_sem]) rfl ⟨by rw [HO.out]; rfl, by ((repeat' (with_reducible first | exact Below.refl _ _ | assumption | refine Below.drew ?_ | refine below_drewN ?_ _ | refine Below.setCell ?_ ?_ _ | refine Below.alloc ?_ ?_ _ | refine Below.ext ?_ ?_ _ | refine Below.trans ?_ (Below.mono ‹_› ?_))) <;> first | omega | (simp; done) | (simp; omega))⟩
    · have hlt : i < 128 := by omega
      have hfi := hf hlt
      have hel : e < 2 ^ 128 := by rw [he]; exact gone_lt a i
      have hol : o < 2 ^ 128 := by rw [ho]; exact Field.mulN_lt hb i
      have htop := top_bit hel
      have hbit : e.testBit 127 = a.testBit (127 - i) := by rw [he]; exact gone_bit i hlt
      have e1 : IntKind.u64.wrap ((hiW e : Int) * 2) = ((hiW e * 2 % 18446744073709551616 : Nat) : Int) := by rw [IntKind.wrap_u64]; omega
      have e2 : ((loW e : Int) / 9223372036854775808) = ((loW e / 9223372036854775808 : Nat) : Int) := by omega
      have hll := loW_lt e
      have hhi : bits .or .u64 (IntKind.u64.wrap ((hiW e : Int) * 2)) ((loW e : Int) / 9223372036854775808) = ((hiW (e * 2 % 2 ^ 128) : Nat) : Int) := by
        rw [e1, e2, bits_or_u64_nat _ _ (by omega) (by omega), hi_dbl hel]
      have hlo : IntKind.u64.wrap ((loW e : Int) * 2) = ((loW (e * 2 % 2 ^ 128) : Nat) : Int) := by
        rw [lo_dbl, IntKind.wrap_u64]; omega
      have hgo : e * 2 % 2 ^ 128 = gone a (i + 1) := by rw [gone_next, he]
      have hadd := fun W0 => add_any o f W0 hol hfl
      have hsh := fun W0 => shift_any f W0 hfl
      unfold el at hadd hsh
      clear e1 e2 hll
      generalize e * 2 % 2 ^ 128 = e' at *
      have HADD := Lib.hid hadd
      have HSH := Lib.hid hsh
      have HGO := Lib.hid hgo
      have HFI := Lib.hid hfi
      have HO := Lib.hid ho
      have HFL := Lib.hid hfl
      rw [hbit] at htop
      have hXl := Field.X_lt hfl
      have HXL := Lib.hid hXl
      have hnext : Field.mulN a b (i + 1) = o ^^^ Field.iff (a.testBit (127 - i)) f := by rw [ho, hfi]; rfl
      clear hadd hsh hgo hfi ho hfl hXl he hf hel hol hbit
      have hcl : (i : Int) < 128 := by omega
      cases hcb : a.testBit (127 - i)
      · rw [hcb] at htop hnext
        have hz : ((hiW e : Int) / 9223372036854775808) = 0 := by simp at htop; omega
        have hw : IntKind.u64.wrap ((hiW e : Int) * 2) = (hiW e : Int) * 2 := by rw [IntKind.wrap_u64]; omega
        have hhi' := hhi
        rw [hw] at hhi'
        clear hw
        have HN := Lib.hid hnext
        clear htop hcb hnext
        unfold room cs
        by_cases h127 : i < 127
        · have h127' : (i : Int) < 127 := by omega
          go_wp2_with fail
          refine Calls.ext (HSH.out _) fun u2 => ?_
          go_wp2
          go_round
          case rel => exact ⟨i + 1, _, e', X f, o, by omega, by go_num, rfl, HGO.out, fun _ => by rw [HFI.out]; rfl, HXL.out, by rw [HN.out]; simp [Field.iff]⟩
          case measure => simp [intOf]; omega
        · have h127' : ¬ (i : Int) < 127 := by omega
          go_wp2
          go_round
          case rel => exact ⟨i + 1, _, e', f, o, by omega, by go_num, rfl, HGO.out, fun h => by omega, HFL.out, by rw [HN.out]; simp [Field.iff]⟩
          case measure => simp [intOf]; omega
      · rw [hcb] at htop hnext
        have hz : ((hiW e : Int) / 9223372036854775808) = 1 := by simp at htop; omega
        have HN := Lib.hid hnext
        clear htop hcb hnext
        unfold room cs
        by_cases h127 : i < 127
        · have h127' : (i : Int) < 127 := by omega
          go_wp2_with fail
          refine Calls.ext (HADD.out _) fun u2 => ?_
          go_wp2_with fail
          refine Calls.ext (HSH.out _) fun u3 => ?_
          go_wp2
          go_round
          case rel => exact ⟨i + 1, _, e', X f, o ^^^ f, by omega, by go_num, rfl, HGO.out, fun _ => by rw [HFI.out]; rfl, HXL.out, by rw [HN.out]; simp [Field.iff]⟩
          case measure => simp [intOf]; omega
        · have h127' : ¬ (i : Int) < 127 := by omega
          go_wp2_with fail
          refine Calls.ext (HADD.out _) fun u2 => ?_
          go_wp2
          go_round
          case rel => exact ⟨i + 1, _, e', f, o ^^^ f, by omega, by go_num, rfl, HGO.out, fun h => by omega, HFL.out, by rw [HN.out]; simp [Field.iff]⟩
          case measure => simp [intOf]; omega
end Go.Proofs.Ytnnoimikoddbcaa.Gf
