/-
  Several texts in one: Gf Gf2 Gf3 Gf4 Gf5.
  Conditions: named at each.
-/
import Derived.Test.YtlbpodddokhmaaaGreatField
import Derived.Laws.Bits64b
import Derived.Deep.OwnRows
import Derived.Test.YtlbpodddokhmaaaGreatArr
import Derived.StillTailTactics
/-
  The walk of gcm's polynomials: add, shift, times.
  Conditions: the numbers are below 2^128.
-/
namespace Go.Proofs.YtlbpodddokhmaaaGreat.Gf
open Go.ChangeShapes Go.WideShapes Go.ChangeAt Go.RowKit Go.Deep
open Go.Proofs.YtlbpodddokhmaaaGreat.Field (X mul one R)
def hiW (e : Nat) : Nat := e >>> 64
def loW (e : Nat) : Nat := e % 2 ^ 64
theorem hiW_lt {e : Nat} (h : e < 2 ^ 128) : hiW e < 18446744073709551616 := by unfold hiW; rw [Nat.shiftRight_eq_div_pow]; omega
theorem loW_lt (e : Nat) : loW e < 18446744073709551616 := by unfold loW; omega
theorem hiW_xor (a b : Nat) : hiW (a ^^^ b) = hiW a ^^^ hiW b := Nat.shiftRight_xor_distrib
theorem loW_xor (a b : Nat) : loW (a ^^^ b) = loW a ^^^ loW b := Nat.xor_mod_two_pow
theorem hiW_R : hiW R = 16212958658533785600 := by decide
theorem loW_R : loW R = 0 := by decide
theorem hiW_half (e : Nat) : hiW (e >>> 1) = hiW e / 2 := by
  unfold hiW
  simp only [Nat.shiftRight_eq_div_pow]
  omega
theorem loW_half (e : Nat) : loW (e >>> 1) = (hiW e * 9223372036854775808 % 18446744073709551616) ||| (loW e / 2) := by
  have h1 : hiW e * 9223372036854775808 % 18446744073709551616 = (hiW e % 2) * 2 ^ 63 := by omega
  have h2 : loW e / 2 < 2 ^ 63 := by unfold loW; omega
  rw [h1, Nat.mul_comm, ← Nat.two_pow_add_eq_or_of_lt h2]
  unfold loW hiW
  simp only [Nat.shiftRight_eq_div_pow]
  omega
theorem odd_bit (e : Nat) : (loW e &&& 1) = if e.testBit 0 then 1 else 0 := by
  rw [Nat.and_one_is_mod]
  unfold loW
  rw [Nat.testBit_zero]
  by_cases h : e % 2 = 1 <;> simp [h] <;> omega
def el (e : Nat) : Value := .agg #[.int .u64 (hiW e), .int .u64 (loW e)]
theorem add_any (a b : Nat) (w : World) (ha : a < 2 ^ 128) (hb : b < 2 ^ 128) : Calls Tryz.prog 116 #[el a, el b] w fun e w' => e = .returned (el (a ^^^ b)) ∧ Below w.heap.size w w' := by
  have h1 : bits .xor .u64 (hiW a : Int) (hiW b : Int) = ((hiW (a ^^^ b) : Nat) : Int) := by rw [bits_xor_u64_nat _ _ (hiW_lt ha) (hiW_lt hb), hiW_xor]
  have h2 : bits .xor .u64 (loW a : Int) (loW b : Int) = ((loW (a ^^^ b) : Nat) : Int) := by rw [bits_xor_u64_nat _ _ (loW_lt _) (loW_lt _), loW_xor]
  unfold el
  clear ha hb
  generalize hiW (a ^^^ b) = hc at *
  generalize loW (a ^^^ b) = lc at *
  generalize hiW a = h at *
  generalize loW a = l at *
  generalize hiW b = h' at *
  generalize loW b = l' at *
  go_enter Tryz.func116, Tryz.ntmps116
  go_wp2
  exact bodyPost_ret (v := .agg #[.int .u64 hc, .int .u64 lc]) (by simp [results, Tryz.results116, go_sem]) rfl ⟨rfl, by ((repeat' (with_reducible first | exact Below.refl _ _ | assumption | refine Below.drew ?_ | refine below_drewN ?_ _ | refine Below.setCell ?_ ?_ _ | refine Below.alloc ?_ ?_ _ | refine Below.ext ?_ ?_ _ | refine Below.trans ?_ (Below.mono ‹_› ?_))) <;> first | omega | (simp; done) | (simp; omega))⟩
theorem shift_any (e : Nat) (w : World) (he : e < 2 ^ 128) : Calls Tryz.prog 137 #[el e] w fun r w' => r = .returned (el (X e)) ∧ Below w.heap.size w w' := by
  have ho := odd_bit e
  have h0 : bits .and .u64 (loW e : Int) 1 = ((loW e &&& 1 : Nat) : Int) := bits_and_u64_nat _ 1 (loW_lt _) (by omega)
  have hl : bits .or .u64 (IntKind.u64.wrap ((hiW e : Int) * 9223372036854775808)) ((loW e : Int) / 2) = ((loW (X e) : Nat) : Int) := by
    have e1 : IntKind.u64.wrap ((hiW e : Int) * 9223372036854775808) = ((hiW e * 9223372036854775808 % 18446744073709551616 : Nat) : Int) := by rw [IntKind.wrap_u64]; omega
    have e2 : ((loW e : Int) / 2) = ((loW e / 2 : Nat) : Int) := by omega
    have := loW_lt e
    rw [e1, e2, bits_or_u64_nat _ _ (by omega) (by omega), ← loW_half]
    unfold X
    rw [loW_xor]
    cases e.testBit 0 <;> simp [Field.iff, loW_R, show loW 0 = 0 from rfl]
  have hx := hiW_lt he
  cases hb : e.testBit 0
  · have hh : ((hiW e : Int) / 2) = ((hiW (X e) : Nat) : Int) := by
      unfold X
      rw [hiW_xor, hb, hiW_half]
      simp [Field.iff, show hiW 0 = 0 from rfl]
    rw [hb] at ho
    rw [ho] at h0
    have h3 : (bits BinOp.and .u64 (loW e : Int) 1 == 1) = false := by rw [h0]; rfl
    unfold el
    clear ho h0 hx he hb
    generalize hiW (X e) = hc at *
    generalize loW (X e) = lc at *
    generalize hiW e = h at *
    generalize loW e = l at *
    go_enter Tryz.func137, Tryz.ntmps137
    go_wp2
    exact bodyPost_ret (v := .agg #[.int .u64 hc, .int .u64 lc]) (by simp [results, Tryz.results137, go_sem]) rfl ⟨rfl, by ((repeat' (with_reducible first | exact Below.refl _ _ | assumption | refine Below.drew ?_ | refine below_drewN ?_ _ | refine Below.setCell ?_ ?_ _ | refine Below.alloc ?_ ?_ _ | refine Below.ext ?_ ?_ _ | refine Below.trans ?_ (Below.mono ‹_› ?_))) <;> first | omega | (simp; done) | (simp; omega))⟩
  · have hh : bits .xor .u64 ((hiW e : Int) / 2) 16212958658533785600 = ((hiW (X e) : Nat) : Int) := by
      have e2 : ((hiW e : Int) / 2) = ((hiW e / 2 : Nat) : Int) := by omega
      rw [e2]
      refine (bits_xor_u64_nat _ 16212958658533785600 (by omega) (by omega)).trans ?_
      unfold X
      rw [hiW_xor, hb, hiW_half]
      simp [Field.iff, hiW_R]
    rw [hb] at ho
    rw [ho] at h0
    have h3 : (bits BinOp.and .u64 (loW e : Int) 1 == 1) = true := by rw [h0]; rfl
    unfold el
    clear ho h0 hx he hb
    generalize hiW (X e) = hc at *
    generalize loW (X e) = lc at *
    generalize hiW e = h at *
    generalize loW e = l at *
    go_enter Tryz.func137, Tryz.ntmps137
    go_wp2
    exact bodyPost_ret (v := .agg #[.int .u64 hc, .int .u64 lc]) (by simp [results, Tryz.results137, go_sem]) rfl ⟨rfl, by ((repeat' (with_reducible first | exact Below.refl _ _ | assumption | refine Below.drew ?_ | refine below_drewN ?_ _ | refine Below.setCell ?_ ?_ _ | refine Below.alloc ?_ ?_ _ | refine Below.ext ?_ ?_ _ | refine Below.trans ?_ (Below.mono ‹_› ?_))) <;> first | omega | (simp; done) | (simp; omega))⟩
end Go.Proofs.YtlbpodddokhmaaaGreat.Gf
/-
  The walk of gcm's product of polynomials.
  Conditions: the numbers are below 2^128.
-/
namespace Go.Proofs.YtlbpodddokhmaaaGreat.Gf
open Go.ChangeShapes Go.WideShapes Go.ChangeAt Go.RowKit Go.Deep
open Go.Proofs.YtlbpodddokhmaaaGreat.Field (X mul one R)
/-- The first factor, its first i bits gone. -/
def gone (a i : Nat) : Nat := a * 2 ^ i % 2 ^ 128
theorem gone_zero {a : Nat} (h : a < 2 ^ 128) : gone a 0 = a := by unfold gone; omega
theorem gone_lt (a i : Nat) : gone a i < 2 ^ 128 := Nat.mod_lt _ (by decide)
theorem gone_next (a i : Nat) : gone a (i + 1) = gone a i * 2 % 2 ^ 128 := by
  unfold gone
  rw [Nat.pow_succ, ← Nat.mul_assoc, Nat.mod_mul_mod]
theorem gone_bit {a : Nat} (i : Nat) (hi : i < 128) : (gone a i).testBit 127 = a.testBit (127 - i) := by
  unfold gone
  rw [Nat.testBit_mod_two_pow, Nat.mul_comm, Nat.testBit_two_pow_mul]
  simp; omega
theorem top_bit {e : Nat} (h : e < 2 ^ 128) : hiW e / 9223372036854775808 = if e.testBit 127 then 1 else 0 := by
  have h1 : e.testBit 127 = decide (e / 2 ^ 127 % 2 = 1) := Nat.testBit_eq_decide_div_mod_eq
  rw [h1]
  unfold hiW
  rw [Nat.shiftRight_eq_div_pow]
  by_cases h2 : e / 2 ^ 127 % 2 = 1 <;> simp only [h2, decide_true, decide_false, if_true, if_false, Bool.false_eq_true] <;> omega
theorem lo_dbl (e : Nat) : loW (e * 2 % 2 ^ 128) = loW e * 2 % 18446744073709551616 := by unfold loW; omega
theorem hi_dbl {e : Nat} (_h : e < 2 ^ 128) : hiW (e * 2 % 2 ^ 128) = (hiW e * 2 % 18446744073709551616) ||| (loW e / 9223372036854775808) := by
  have h2 : loW e / 9223372036854775808 < 2 ^ 1 := by unfold loW; omega
  have h1 : hiW e * 2 % 18446744073709551616 = 2 ^ 1 * (hiW e % 2 ^ 63) := by omega
  rw [h1, ← Nat.two_pow_add_eq_or_of_lt h2]
  unfold loW hiW
  simp only [Nat.shiftRight_eq_div_pow]
  omega
def cs (e : Nat) : Array Value := #[.int .u64 (hiW e), .int .u64 (loW e)]
/-- The world of the loop. -/
def room (w : World) (t : TypeId) (e f o : Nat) : World := (((w.alloc (.cells (cs e) t)).alloc (.cells (cs f) t)).alloc (.cells (cs 0) t)).alloc (.cells (cs o) t)
set_option maxRecDepth 100000 in
theorem times_any (a b : Nat) (w : World) (ha : a < 2 ^ 128) (hb : b < 2 ^ 128) : Calls Tryz.prog 117 #[el a, el b] w fun r w' => r = .returned (el (mul a b)) ∧ Below w.heap.size w w' := by
  have hm : ∀ o, o = mul a b → True := fun _ _ => trivial
  go_enter Tryz.func117, Tryz.ntmps117
  unfold el
  go_wp2
  go_loopw [8] (fun s8 wr => ∃ (i : Nat) (u : Xt) (e f o : Nat), i ≤ 128 ∧ s8 = .int .i64 i ∧ wr = ext (room w 160 e f o) u ∧ e = gone a i ∧ (i < 128 → f = Field.Xn i b) ∧ f < 2 ^ 128 ∧ o = Field.mulN a b i) (fun s _ => 128 - (intOf s).toNat)
  case atStart => exact ⟨0, ⟨#[], w.drawn⟩, a, b, 0, by omega, rfl, rfl, (gone_zero ha).symm, fun _ => rfl, hb, rfl⟩
  case round =>
    obtain ⟨i, u, e, f, o, hi, rfl, rfl, he, hf, hfl, ho⟩ := hrel
    by_cases h128 : i = 128
    · subst h128
      unfold room cs
      have HO := Lib.hid ho
      clear he hf hfl ho
      go_wp2
      exact bodyPost_ret (v := .agg #[.int .u64 (hiW o), .int .u64 (loW o)]) (by simp [results, Tryz.results117, go_sem]) rfl ⟨by rw [HO.out]; rfl, by ((repeat' (with_reducible first | exact Below.refl _ _ | assumption | refine Below.drew ?_ | refine below_drewN ?_ _ | refine Below.setCell ?_ ?_ _ | refine Below.alloc ?_ ?_ _ | refine Below.ext ?_ ?_ _ | refine Below.trans ?_ (Below.mono ‹_› ?_))) <;> first | omega | (simp; done) | (simp; omega))⟩
    · have hlt : i < 128 := by omega
      have hfi := hf hlt
      have hel : e < 2 ^ 128 := by rw [he]; exact gone_lt a i
      have hol : o < 2 ^ 128 := by rw [ho]; exact Field.mulN_lt hb i
      have htop := top_bit hel
      have hbit : e.testBit 127 = a.testBit (127 - i) := by rw [he]; exact gone_bit i hlt
      have e1 : IntKind.u64.wrap ((hiW e : Int) * 2) = ((hiW e * 2 % 18446744073709551616 : Nat) : Int) := by rw [IntKind.wrap_u64]; omega
      have e2 : ((loW e : Int) / 9223372036854775808) = ((loW e / 9223372036854775808 : Nat) : Int) := by omega
      have hll := loW_lt e
      have hhi : bits .or .u64 (IntKind.u64.wrap ((hiW e : Int) * 2)) ((loW e : Int) / 9223372036854775808) = ((hiW (e * 2 % 2 ^ 128) : Nat) : Int) := by
        rw [e1, e2, bits_or_u64_nat _ _ (by omega) (by omega), hi_dbl hel]
      have hlo : IntKind.u64.wrap ((loW e : Int) * 2) = ((loW (e * 2 % 2 ^ 128) : Nat) : Int) := by
        rw [lo_dbl, IntKind.wrap_u64]; omega
      have hgo : e * 2 % 2 ^ 128 = gone a (i + 1) := by rw [gone_next, he]
      have hadd := fun W0 => add_any o f W0 hol hfl
      have hsh := fun W0 => shift_any f W0 hfl
      unfold el at hadd hsh
      clear e1 e2 hll
      generalize e * 2 % 2 ^ 128 = e' at *
      have HADD := Lib.hid hadd
      have HSH := Lib.hid hsh
      have HGO := Lib.hid hgo
      have HFI := Lib.hid hfi
      have HO := Lib.hid ho
      have HFL := Lib.hid hfl
      rw [hbit] at htop
      have hXl := Field.X_lt hfl
      have HXL := Lib.hid hXl
      have hnext : Field.mulN a b (i + 1) = o ^^^ Field.iff (a.testBit (127 - i)) f := by rw [ho, hfi]; rfl
      clear hadd hsh hgo hfi ho hfl hXl he hf hel hol hbit
      have hcl : (i : Int) < 128 := by omega
      cases hcb : a.testBit (127 - i)
      · rw [hcb] at htop hnext
        have hz : ((hiW e : Int) / 9223372036854775808) = 0 := by simp at htop; omega
        have hw : IntKind.u64.wrap ((hiW e : Int) * 2) = (hiW e : Int) * 2 := by rw [IntKind.wrap_u64]; omega
        have hhi' := hhi
        rw [hw] at hhi'
        clear hw
        have HN := Lib.hid hnext
        clear htop hcb hnext
        unfold room cs
        by_cases h127 : i < 127
        · have h127' : (i : Int) < 127 := by omega
          go_wp2_with fail
          refine Calls.ext (HSH.out _) fun u2 => ?_
          go_wp2
          go_round
          case rel => exact ⟨i + 1, _, e', X f, o, by omega, by go_num, rfl, HGO.out, fun _ => by rw [HFI.out]; rfl, HXL.out, by rw [HN.out]; simp [Field.iff]⟩
          case measure => simp [intOf]; omega
        · have h127' : ¬ (i : Int) < 127 := by omega
          go_wp2
          go_round
          case rel => exact ⟨i + 1, _, e', f, o, by omega, by go_num, rfl, HGO.out, fun h => by omega, HFL.out, by rw [HN.out]; simp [Field.iff]⟩
          case measure => simp [intOf]; omega
      · rw [hcb] at htop hnext
        have hz : ((hiW e : Int) / 9223372036854775808) = 1 := by simp at htop; omega
        have HN := Lib.hid hnext
        clear htop hcb hnext
        unfold room cs
        by_cases h127 : i < 127
        · have h127' : (i : Int) < 127 := by omega
          go_wp2_with fail
          refine Calls.ext (HADD.out _) fun u2 => ?_
          go_wp2_with fail
          refine Calls.ext (HSH.out _) fun u3 => ?_
          go_wp2
          go_round
          case rel => exact ⟨i + 1, _, e', X f, o ^^^ f, by omega, by go_num, rfl, HGO.out, fun _ => by rw [HFI.out]; rfl, HXL.out, by rw [HN.out]; simp [Field.iff]⟩
          case measure => simp [intOf]; omega
        · have h127' : ¬ (i : Int) < 127 := by omega
          go_wp2_with fail
          refine Calls.ext (HADD.out _) fun u2 => ?_
          go_wp2
          go_round
          case rel => exact ⟨i + 1, _, e', f, o ^^^ f, by omega, by go_num, rfl, HGO.out, fun h => by omega, HFL.out, by rw [HN.out]; simp [Field.iff]⟩
          case measure => simp [intOf]; omega
end Go.Proofs.YtlbpodddokhmaaaGreat.Gf
/-
  The walk of gcm's blocks: number, read, bytes8, write, Times.
  Conditions: named at each.
-/
namespace Go.Proofs.YtlbpodddokhmaaaGreat.Gf
open Go.ChangeShapes Go.WideShapes Go.ChangeAt Go.RowKit Go.Deep
open Go.Proofs.YtlbpodddokhmaaaGreat.Field (X mul one R)
/-- The number of the first i bytes. -/
def num (l : List UInt8) : Nat → Nat
  | 0 => 0
  | i + 1 => num l i * 256 + (l.getD i 0).toNat
theorem num_lt (l : List UInt8) : ∀ i, num l i < 256 ^ i
  | 0 => by simp [num]
  | i + 1 => by
    have := num_lt l i
    have hb := (l.getD i 0).toNat_lt
    show num l i * 256 + _ < _
    rw [Nat.pow_succ]
    omega
theorem number_any (l : List UInt8) (w : World) (hl : 8 ≤ l.length) : Calls Tryz.prog 136 #[.string (B l)] w fun e w' => e = .returned (.int .u64 ((num l 8 : Nat) : Int)) ∧ w = w' := by
  go_enter Tryz.func136, Tryz.ntmps136
  go_wp2
  go_loop [3, 5] (fun s3 s5 => ∃ i : Nat, i ≤ 8 ∧ s5 = .int .i64 i ∧ s3 = .int .u64 ((num l i : Nat) : Int)) (fun _ s => 8 - (intOf s).toNat)
  case atStart => exact ⟨0, by omega, rfl, rfl⟩
  case round =>
    obtain ⟨i, hi, rfl, rfl⟩ := hrel
    by_cases h8 : i = 8
    · subst h8
      go_wp2
      go_ret
      exact ⟨rfl, rfl⟩
    · have hlt : (i : Int) < 8 := by omega
      have hil : i < l.length := by omega
      have hn := num_lt l i
      have hp : 256 ^ i ≤ 256 ^ 7 := Nat.pow_le_pow_right (by omega) (by omega)
      have hm : num l i < 72057594037927936 := Nat.lt_of_lt_of_le hn hp
      have hg : l.getD i 0 = l[i] := by simp [hil]
      have hb := l[i].toNat_lt
      have hstep : bits .or .u64 ((num l i : Int) * 256) ((l[i].toNat : Nat) : Int) = ((num l (i + 1) : Nat) : Int) := by
        have e : num l (i + 1) = 2 ^ 8 * num l i + l[i].toNat := by
          show num l i * 256 + _ = _
          rw [hg]; omega
        rw [e, Nat.two_pow_add_eq_or_of_lt hb, show ((num l i : Int) * 256) = ((2 ^ 8 * num l i : Nat) : Int) by omega]
        exact bits_or_u64_nat _ _ (by omega) (by omega)
      have hwr : IntKind.u64.wrap ((l[i].toNat : Nat) : Int) = ((l[i].toNat : Nat) : Int) := by rw [IntKind.wrap_u64]; omega
      clear hn hp hg hb
      go_wp2
      go_round
      case rel => exact ⟨i + 1, by omega, by go_num, rfl⟩
      case measure => simp [intOf]; omega
/-- The polynomial of a block. -/
def rd (l : List UInt8) : Nat := num l 8 * 2 ^ 64 + num (l.drop 8) 8
theorem rd_hi (l : List UInt8) : hiW (rd l) = num l 8 := by
  have := num_lt (l.drop 8) 8
  unfold hiW rd
  rw [Nat.shiftRight_eq_div_pow]
  omega
theorem rd_lo (l : List UInt8) : loW (rd l) = num (l.drop 8) 8 := by
  have := num_lt (l.drop 8) 8
  unfold loW rd
  omega
theorem rd_lt (l : List UInt8) : rd l < 2 ^ 128 := by
  have := num_lt (l.drop 8) 8
  have := num_lt l 8
  unfold rd
  omega
end Go.Proofs.YtlbpodddokhmaaaGreat.Gf
/-
  The walk of gcm's blocks: read, bytes8, write, Times.
  Conditions: named at each.
-/
namespace Go.Proofs.YtlbpodddokhmaaaGreat.Gf
open Go.ChangeShapes Go.WideShapes Go.ChangeAt Go.RowKit Go.Deep
open Go.Proofs.YtlbpodddokhmaaaGreat.Field (X mul one R)
set_option maxRecDepth 100000 in
theorem read_any (l : List UInt8) (w : World) (hl : l.length = 16) : Calls Tryz.prog 113 #[.string (B l)] w fun e w' => e = .returned (el (rd l)) ∧ Below w.heap.size w w' := by
  have h1 : ∀ W0 : World, Calls Tryz.prog 136 #[.string (B l)] W0 fun e w' => e = .returned (.int .u64 ((num l 8 : Nat) : Int)) ∧ w' = W0 := fun W0 => (number_any l W0 (by omega)).mono fun _ _ h => ⟨h.1, h.2.symm⟩
  have h2 : ∀ W0 : World, Calls Tryz.prog 136 #[.string (B (l.drop 8))] W0 fun e w' => e = .returned (.int .u64 ((num (l.drop 8) 8 : Nat) : Int)) ∧ w' = W0 := fun W0 => (number_any (l.drop 8) W0 (by simp; omega)).mono fun _ _ h => ⟨h.1, h.2.symm⟩
  rw [← rd_hi] at h1
  rw [← rd_lo] at h2
  unfold el
  generalize hiW (rd l) = h at *
  generalize loW (rd l) = o at *
  have H1 := Lib.hid h1
  have H2 := Lib.hid h2
  clear h1 h2
  have h8 : 8 ≤ l.length := by omega
  have h8' : (8 : Int) ≤ (l.length : Int) := by omega
  clear hl
  go_enter Tryz.func113, Tryz.ntmps113
  go_wp2_with fail
  go_still_tail 6, (by kernel_rfl)
  still_call (H1.out _)
  still_step
  still_step
  show wpStill _ _ (w.alloc (.cells #[.int .u64 0, .int .u64 0] 160)).drew _ _ _
  still_call (H2.out _)
  still_step
  try refine wpStill_nil ?_
  show wpList _ _ _ _ _ (w.alloc (.cells #[.int .u64 0, .int .u64 0] 160)).drew
  go_wp2
  exact bodyPost_ret (v := .agg #[.int .u64 h, .int .u64 o]) (by simp [results, Tryz.results113, go_sem]) rfl ⟨rfl, by ((repeat' (with_reducible first | exact Below.refl _ _ | assumption | refine Below.drew ?_ | refine below_drewN ?_ _ | refine Below.setCell ?_ ?_ _ | refine Below.alloc ?_ ?_ _ | refine Below.ext ?_ ?_ _ | refine Below.trans ?_ (Below.mono ‹_› ?_))) <;> first | omega | (simp; done) | (simp; omega))⟩
/-- A number's eight bytes. -/
def byteAt (n k : Nat) : Nat := n / 2 ^ (8 * (7 - k)) % 256
def be8 (n : Nat) : List Nat := (List.range 8).map (byteAt n)
set_option maxRecDepth 100000 in
theorem bytes8_any (n : Nat) (w : World) (_hn : n < 18446744073709551616) : Calls Tryz.prog 115 #[.int .u64 n] w fun e w' => e = .returned (.string (NB (be8 n))) ∧ Below w.heap.size w w' := by
  go_enter Tryz.func115, Tryz.ntmps115
  go_wp2
  go_loopw [5] (fun s5 wr => ∃ (i : Nat) (l : List Nat), i ≤ 8 ∧ l.length = 8 ∧ s5 = .int .i64 i ∧ wr = w.alloc (.cells (nums .u8 l) 187) ∧ ∀ k, k < i → l.getD k 0 = byteAt n k) (fun s _ => 8 - (intOf s).toNat)
  case atStart => exact ⟨0, [0, 0, 0, 0, 0, 0, 0, 0], by omega, rfl, rfl, rfl, by omega⟩
  case round =>
    obtain ⟨i, l, hi, hl, rfl, rfl, hk⟩ := hrel
    by_cases h8 : i = 8
    · subst h8
      have e : l = be8 n := by
        apply List.ext_getElem (by simp [be8, hl])
        intro j h1 h2
        have := hk j (by omega)
        rw [List.getD_eq_getElem?_getD, List.getElem?_eq_getElem h1] at this
        simpa [be8] using this
      have hconv := string_new (P := Tryz.prog) w 187 73 9 5 8 8 l Tryz.underlying73 Tryz.underlying5 Tryz.underlying9 hl
      have HE := Lib.hid e
      clear e hk
      go_wp2
      go_ret
      exact ⟨by rw [HE.out]; rfl, by ((repeat' (with_reducible first | exact Below.refl _ _ | assumption | refine Below.drew ?_ | refine below_drewN ?_ _ | refine Below.setCell ?_ ?_ _ | refine Below.alloc ?_ ?_ _ | refine Below.ext ?_ ?_ _ | refine Below.trans ?_ (Below.mono ‹_› ?_))) <;> first | omega | (simp; done) | (simp; omega))⟩
    · have hlt : i < 8 := by omega
      have hget := nums_getD .u8 (l := l) (i := i) (by omega)
      have hst : (n : Int) / 2 ^ (8 * (7 - i)) % 256 = ((byteAt n i : Nat) : Int) := by unfold byteAt; simp
      have HK := Lib.hid hk
      clear hk
      go_wp2
      go_round
      case rel => 
        refine ⟨i + 1, l.set i (byteAt n i), by omega, by simp [hl], by go_num, ?_, ?_⟩
        · rw [nums_set]
        · intro k hki
          by_cases e : k = i
          · subst e; simp [List.getD, hl, hlt]
          · have := HK.out k (by omega)
            rw [← this]; simp [List.getD, Ne.symm e]
      case measure => simp [intOf]; omega
set_option maxRecDepth 100000 in
theorem write_any (e : Nat) (w : World) (he : e < 2 ^ 128) : Calls Tryz.prog 118 #[el e] w fun r w' => r = .returned (.string (NB (be8 (hiW e) ++ be8 (loW e)))) ∧ Below w.heap.size w w' := by
  have hh : hiW e < 18446744073709551616 := by unfold hiW; rw [Nat.shiftRight_eq_div_pow]; omega
  have hlo := loW_lt e
  have h1 := fun W0 => bytes8_any (hiW e) W0 hh
  have h2 := fun W0 => bytes8_any (loW e) W0 hlo
  have hcat : NB (be8 (hiW e) ++ be8 (loW e)) = NB (be8 (hiW e)) ++ NB (be8 (loW e)) := by unfold NB; rw [List.map_append, B_append]
  rw [hcat]
  clear hh hlo hcat
  unfold el
  generalize hiW e = h at *
  generalize loW e = l at *
  unfold NB at *
  have hx : ((be8 h).map UInt8.ofNat).length = 8 := by simp [be8]
  have hy : ((be8 l).map UInt8.ofNat).length = 8 := by simp [be8]
  generalize (be8 h).map UInt8.ofNat = x at *
  generalize (be8 l).map UInt8.ofNat = y at *
  have H1 := Lib.hid h1
  have H2 := Lib.hid h2
  clear h1 h2
  go_enter Tryz.func118, Tryz.ntmps118
  go_wp2_with fail
  (refine wp_region_ext_lit (by kernel_rfl) (by kernel_rfl) ?_; (repeat (any_goals (first | go_big_quiet_step ((first | (go_at_call 115; with_reducible first | exact Calls.ext_of' (H1.out _) | exact Calls.ext_of (H1.out _) | exact Calls.ext_of_same' (H1.out _) | exact Calls.ext_of_same (H1.out _)) | (go_at_call 115; with_reducible first | exact Calls.ext_of' (H2.out _) | exact Calls.ext_of (H2.out _) | exact Calls.ext_of_same' (H2.out _) | exact Calls.ext_of_same (H2.out _)))) | quiet_step ((first | (go_at_call 115; with_reducible first | exact Calls.ext_of' (H1.out _) | exact Calls.ext_of (H1.out _) | exact Calls.ext_of_same' (H1.out _) | exact Calls.ext_of_same (H1.out _)) | (go_at_call 115; with_reducible first | exact Calls.ext_of' (H2.out _) | exact Calls.ext_of (H2.out _) | exact Calls.ext_of_same' (H2.out _) | exact Calls.ext_of_same (H2.out _))))))); refine wpQuiet_nil ?_; rintro _ ⟨u1, rfl⟩)
  go_wp2
  go_ret
  exact ⟨rfl, by ((repeat' (with_reducible first | exact Below.refl _ _ | assumption | refine Below.drew ?_ | refine below_drewN ?_ _ | refine Below.setCell ?_ ?_ _ | refine Below.alloc ?_ ?_ _ | refine Below.ext ?_ ?_ _ | refine Below.trans ?_ (Below.mono ‹_› ?_))) <;> first | omega | (simp; done) | (simp; omega))⟩
end Go.Proofs.YtlbpodddokhmaaaGreat.Gf
/-
  The walk of gcm.Times, and reading what was written.
  Conditions: named at each.
-/
namespace Go.Proofs.YtlbpodddokhmaaaGreat.Gf
open Go.ChangeShapes Go.WideShapes Go.ChangeAt Go.RowKit Go.Deep
open Go.Proofs.YtlbpodddokhmaaaGreat.Field (X mul one R)
/-- A polynomial's block. -/
def WR (e : Nat) : List UInt8 := (be8 (hiW e) ++ be8 (loW e)).map UInt8.ofNat
theorem WR_length (e : Nat) : (WR e).length = 16 := by simp [WR, be8]
theorem num_be8 (n : Nat) (t : List UInt8) (h : n < 18446744073709551616) : num ((be8 n).map UInt8.ofNat ++ t) 8 = n := by
  simp [num, be8, List.range_succ, byteAt]
  omega
theorem rd_WR {e : Nat} (he : e < 2 ^ 128) : rd (WR e) = e := by
  have h1 := num_be8 (hiW e) ((be8 (loW e)).map UInt8.ofNat) (hiW_lt he)
  have h2 := num_be8 (loW e) [] (loW_lt e)
  have h3 : (WR e).drop 8 = (be8 (loW e)).map UInt8.ofNat ++ [] := by
    rw [List.append_nil, WR, List.map_append, List.drop_left' (by simp [be8])]
  unfold rd
  rw [h3, h2, WR, List.map_append, h1]
  unfold hiW loW
  rw [Nat.shiftRight_eq_div_pow]
  omega
theorem be8_num (l : List UInt8) (h : l.length = 8) : (be8 (num l 8)).map UInt8.ofNat = l := by
  match l, h with
  | [a, b, c, d, e, f, g, i], _ =>
    have ha := a.toNat_lt; have hb := b.toNat_lt; have hc := c.toNat_lt; have hd := d.toNat_lt
    have he := e.toNat_lt; have hf := f.toNat_lt; have hg := g.toNat_lt; have hi := i.toNat_lt
    simp only [num, be8, List.range_succ, byteAt, List.range_zero, List.nil_append, List.cons_append, List.map_cons, List.map_nil, List.getD_cons_zero, List.getD_cons_succ]
    simp only [List.cons.injEq, and_true]
    refine ⟨?_, ?_, ?_, ?_, ?_, ?_, ?_, ?_⟩ <;> (apply UInt8.toNat_inj.1; rw [UInt8.toNat_ofNat']; omega)
theorem num_take (l : List UInt8) (n : Nat) : ∀ i, i ≤ n → num (l.take n) i = num l i
  | 0, _ => rfl
  | i + 1, h => by
    show num (l.take n) i * 256 + _ = num l i * 256 + _
    rw [num_take l n i (by omega)]
    congr 2
    simp [List.getD, show i < n by omega]
theorem WR_rd (l : List UInt8) (h : l.length = 16) : WR (rd l) = l := by
  unfold WR
  rw [rd_hi, rd_lo, List.map_append, be8_num (l.drop 8) (by simp; omega), ← num_take l 8 8 (Nat.le_refl _), be8_num (l.take 8) (by simp; omega), List.take_append_drop]
theorem WR_inj {a b : Nat} (ha : a < 2 ^ 128) (hb : b < 2 ^ 128) : WR a = WR b ↔ a = b := ⟨fun h => by rw [← rd_WR ha, h, rd_WR hb], fun h => by rw [h]⟩
theorem rd_inj {a b : List UInt8} (ha : a.length = 16) (hb : b.length = 16) : rd a = rd b ↔ a = b := ⟨fun h => by rw [← WR_rd a ha, h, WR_rd b hb], fun h => by rw [h]⟩
end Go.Proofs.YtlbpodddokhmaaaGreat.Gf
