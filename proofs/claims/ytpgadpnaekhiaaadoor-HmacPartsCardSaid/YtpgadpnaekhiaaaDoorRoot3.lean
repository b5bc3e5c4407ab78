/-
  The walks of most and Root: the root is the greatest number whose power is not above, its lower word.
  Conditions: none but that the number is a word.
-/
import Derived.Test.YtpgadpnaekhiaaaDoorRoot2
namespace Go.Proofs.YtpgadpnaekhiaaaDoor.Root
open Go.ChangeShapes Go.WideShapes Go.ChangeAt Go.RowKit Go.Shelf Go.Deep
/-- The bits of a number, from the bit b - 1 on, that may be set. -/
def most (is : Nat → Bool) : Nat → Nat → Nat
  | 0, acc => acc
  | b + 1, acc => most is b (if is (acc + 2 ^ b) then acc + 2 ^ b else acc)
theorem or_bit (a k : Nat) (hk : k < 64) (ha : a < W) (hm : a % 2 ^ (k + 1) = 0) : bits .or .u64 (a : Int) (IntKind.u64.wrap (2 ^ k)) = ((a + 2 ^ k : Nat) : Int) := by
  have hlt : 2 ^ k < W := by
    have : 2 ^ k < 2 ^ 64 := Nat.pow_lt_pow_right (by omega) hk
    unfold W; omega
  have e : ((2 : Int) ^ k) = ((2 ^ k : Nat) : Int) := by simp
  rw [e, u64_wrap _ hlt, u64_or_nat _ _ ha hlt]
  have hd : a = 2 ^ (k + 1) * (a / 2 ^ (k + 1)) := by
    have := Nat.div_add_mod a (2 ^ (k + 1))
    omega
  have hp : 2 ^ k < 2 ^ (k + 1) := Nat.pow_lt_pow_right (by omega) (by omega)
  have := Nat.two_pow_add_eq_or_of_lt hp (a / 2 ^ (k + 1))
  rw [← hd] at this
  rw [← this]
theorem div_small {n : Nat} (h : n < 2 ^ 69) : n / W < W := (Nat.div_lt_iff_lt_mul W_pos).2 (Nat.lt_trans h (by decide))
/-- A bit above the lower word. -/
theorem bit_hi {acc b : Nat} (hb : 64 ≤ b) (hb2 : b < 69) (hm : acc % 2 ^ (b + 1) = 0) (hl : acc < 2 ^ 69) :
    (acc / W) % 2 ^ (b - 64 + 1) = 0 ∧ (acc + 2 ^ b) / W = acc / W + 2 ^ (b - 64) ∧ (acc + 2 ^ b) % W = acc % W ∧ acc / W < W := by
  obtain ⟨k, rfl⟩ : ∃ k, b = k + 64 := ⟨b - 64, by omega⟩
  have e1 : 2 ^ (k + 64 + 1) = W * 2 ^ (k + 1) := by rw [show k + 64 + 1 = 64 + (k + 1) by omega, Nat.pow_add]; rfl
  have e2 : 2 ^ (k + 64) = W * 2 ^ k := by rw [show k + 64 = 64 + k by omega, Nat.pow_add]; rfl
  rw [e1] at hm
  rw [e2, show k + 64 - 64 = k by omega]
  refine ⟨?_, ?_, ?_, ?_⟩
  · rw [Nat.mod_mul] at hm
    have h2 := (Nat.add_eq_zero_iff.1 hm).2
    exact (Nat.mul_eq_zero.1 h2).resolve_left (by decide)
  · rw [Nat.add_mul_div_left _ _ W_pos]
  · rw [Nat.add_mul_mod_self_left]
  · exact div_small ‹_›
/-- A bit within the lower word. -/
theorem bit_lo {acc b : Nat} (hb : b < 64) (hm : acc % 2 ^ (b + 1) = 0) :
    (acc % W) % 2 ^ (b + 1) = 0 ∧ (acc + 2 ^ b) / W = acc / W ∧ (acc + 2 ^ b) % W = acc % W + 2 ^ b ∧ acc % W < W ∧ acc % W + 2 ^ b < W := by
  have hW : W = 2 ^ (b + 1) * 2 ^ (63 - b) := by
    rw [← Nat.pow_add, show b + 1 + (63 - b) = 64 by omega]; rfl
  have h1 : (acc % W) % 2 ^ (b + 1) = 0 := by
    rw [hW, Nat.mod_mul_right_mod, hm]
  have h2 := Nat.mod_lt acc W_pos
  have h3 : acc % W + 2 ^ b < W := by
    have hd : acc % W = 2 ^ (b + 1) * (acc % W / 2 ^ (b + 1)) := by
      have := Nat.div_add_mod (acc % W) (2 ^ (b + 1))
      omega
    have hq : acc % W / 2 ^ (b + 1) + 1 ≤ 2 ^ (63 - b) := by
      have : acc % W / 2 ^ (b + 1) < 2 ^ (63 - b) := (Nat.div_lt_iff_lt_mul (Nat.two_pow_pos _)).2 (by rw [Nat.mul_comm, ← hW]; exact h2)
      exact this
    have hp : 2 ^ b < 2 ^ (b + 1) := Nat.pow_lt_pow_right (by omega) (by omega)
    have := Nat.mul_le_mul_left (2 ^ (b + 1)) hq
    rw [Nat.mul_add, ← hW, ← hd] at this
    omega
  have hd := Nat.div_add_mod acc W
  have e : acc + 2 ^ b = acc % W + 2 ^ b + W * (acc / W) := by omega
  refine ⟨h1, ?_, ?_, h2, h3⟩
  · rw [e, Nat.add_mul_div_left _ _ W_pos, Nat.div_eq_of_lt h3, Nat.zero_add]
  · rw [e, Nat.add_mul_mod_self_left, Nat.mod_eq_of_lt h3]
theorem mod_step {acc b : Nat} (hm : acc % 2 ^ (b + 1) = 0) : acc % 2 ^ b = 0 ∧ (acc + 2 ^ b) % 2 ^ b = 0 := by
  have h : acc % 2 ^ b = 0 := by
    rw [Nat.pow_succ] at hm
    have := Nat.mod_mul_right_mod acc (2 ^ b) 2
    rw [hm, Nat.zero_mod] at this
    exact this.symm
  exact ⟨h, by rw [Nat.add_mod_right, h]⟩
theorem add_bit_lt {acc b : Nat} (hb : b < 69) (hm : acc % 2 ^ (b + 1) = 0) (hl : acc < 2 ^ 69) : acc + 2 ^ b < 2 ^ 69 := by
  have hW : (2 : Nat) ^ 69 = 2 ^ (b + 1) * 2 ^ (68 - b) := by
    rw [← Nat.pow_add, show b + 1 + (68 - b) = 69 by omega]
  have hd : acc = 2 ^ (b + 1) * (acc / 2 ^ (b + 1)) := by
    have := Nat.div_add_mod acc (2 ^ (b + 1))
    omega
  have hq : acc / 2 ^ (b + 1) + 1 ≤ 2 ^ (68 - b) := (Nat.div_lt_iff_lt_mul (Nat.two_pow_pos _)).2 (by rw [Nat.mul_comm, ← hW]; exact hl)
  have hp : 2 ^ b < 2 ^ (b + 1) := Nat.pow_lt_pow_right (by omega) (by omega)
  have := Nat.mul_le_mul_left (2 ^ (b + 1)) hq
  rw [Nat.mul_add, ← hW, ← hd] at this
  omega
/-- A number's words. -/
def hiW (n : Nat) : Nat := n / W
def loW (n : Nat) : Nat := n % W
theorem most_any (p : Nat) (cube : Bool) (cA pA : Addr) (w : World) (hp : p < W) (hc : w.cell? cA = some (.bool cube)) (hpc : w.cell? pA = some (.int .u64 p)) (hcl : cA.block < w.heap.size) (hpl : pA.block < w.heap.size) :
    Calls Tryd.prog 38 #[.func (.func 39) #[] #[.pointer (some cA), .pointer (some pA)]] w fun e w' => e = .returned (.int .u64 ((loW (most (under p cube) 69 0) : Nat) : Int)) ∧ Below w.heap.size w w' := by
  have HP := Lib.hid hp
  have HC := Lib.hid hc
  have HPC := Lib.hid hpc
  generalize hM : most (under p cube) 69 0 = M
  have HM0 := Lib.hid hM
  clear hp hM hc hpc
  go_enter Tryd.func38, Tryd.ntmps38
  go_wp2
  go_loopw [3, 4, 5] (fun s3 s4 s5 wr => ∃ b acc : Nat, b ≤ 69 ∧ s5 = .int .i64 ((b : Int) - 1) ∧ s3 = .int .u64 ((hiW acc : Nat) : Int) ∧ s4 = .int .u64 ((loW acc : Nat) : Int) ∧ acc % 2 ^ b = 0 ∧ acc < 2 ^ 69 ∧ Below w.heap.size w wr ∧ most (under p cube) b acc = M) (fun _ _ s _ => (intOf s + 1).toNat)
  case atStart => exact ⟨69, 0, Nat.le_refl _, rfl, rfl, rfl, rfl, by decide, Below.refl _ _, HM0.out⟩
  case round =>
    obtain ⟨b, acc, hb, rfl, rfl, rfl, hmod, hacc, hbel, hm⟩ := hrel
    by_cases hb0 : b = 0
    · subst hb0
      have HM := Lib.hid hm
      clear hmod hacc hm
      go_wp2
      go_ret
      exact ⟨by rw [← HM.out]; rfl, hbel⟩
    · obtain ⟨k, rfl⟩ : ∃ k, b = k + 1 := ⟨b - 1, by omega⟩
      have hk1 : (((k + 1 : Nat) : Int) - 1) = (k : Int) := by omega
      rw [hk1]
      clear hk1
      have hlo : loW acc < W := Nat.mod_lt _ W_pos
      have hC := (hbel.cell hcl).trans HC.out
      have hPC := (hbel.cell hpl).trans HPC.out
      have hcl2 : cA.block < wr.heap.size := Nat.lt_of_lt_of_le hcl hbel.size
      have hpl2 : pA.block < wr.heap.size := Nat.lt_of_lt_of_le hpl hbel.size
      obtain ⟨hm1, hm2⟩ := mod_step hmod
      have hl2 := add_bit_lt (by omega) hmod hacc
      have hnext : most (under p cube) k (if under p cube (acc + 2 ^ k) then acc + 2 ^ k else acc) = M := hm
      have hclose := fun hi lo (h1 : hi < W) (h2 : lo < W) => closure_any hi lo p cube cA pA wr h1 h2 HP.out hC hPC hcl2 hpl2
      have HCL := Lib.hid hclose
      by_cases h64 : 64 ≤ k
      · obtain ⟨e1, e2, e3, e4⟩ := bit_hi h64 (by omega) hmod hacc
        have e5 := or_bit (acc / W) (k - 64) (by omega) e4 e1
        have e4' : acc / W + 2 ^ (k - 64) < W := by
          rw [← e2]
          exact div_small hl2
        rw [← e2] at e4' e5
        have e5' : bits .or .u64 ((hiW acc : Nat) : Int) (IntKind.u64.wrap (2 ^ (k - 64))) = ((hiW (acc + 2 ^ k) : Nat) : Int) := e5
        have e4'' : hiW (acc + 2 ^ k) < W := e4'
        have e3' : loW (acc + 2 ^ k) = loW acc := e3
        have hdm : hiW (acc + 2 ^ k) * W + loW acc = acc + 2 ^ k := by
          rw [← e3', Nat.mul_comm]
          exact Nat.div_add_mod _ _
        have HM1 := Lib.hid hm1
        have HM2 := Lib.hid hm2
        have HL2 := Lib.hid hl2
        have HACC := Lib.hid hacc
        have HLO := Lib.hid hlo
        have HDM := Lib.hid hdm
        have E3 := Lib.hid e3'
        have E4 := Lib.hid e4''
        clear hdm e1 e2 e3 e4 e4' e5 e3' e4'' hm1 hm2 hl2
        cases hu : under p cube (acc + 2 ^ k)
        · rw [hu] at hnext
          have HN := Lib.hid hnext
          have HU := Lib.hid hu
          clear hnext hu hmod hacc hm hlo hclose
          go_wp2_with fail
          refine (HCL.out (hiW (acc + 2 ^ k)) (loW acc) E4.out HLO.out).mono ?_
          rintro e w2 ⟨rfl, hb2⟩
          rw [HDM.out, HU.out]
          have hbel2 := hbel.trans (hb2.mono hbel.size)
          go_wp2
          go_roundw
          case rel => exact ⟨k, acc, by omega, rfl, rfl, rfl, HM1.out, HACC.out, hbel2, by simpa using HN.out⟩
          case measure => simp [intOf]
        · rw [hu] at hnext
          have HN := Lib.hid hnext
          have HU := Lib.hid hu
          clear hnext hu hmod hacc hm hlo hclose
          go_wp2_with fail
          refine (HCL.out (hiW (acc + 2 ^ k)) (loW acc) E4.out HLO.out).mono ?_
          rintro e w2 ⟨rfl, hb2⟩
          rw [HDM.out, HU.out]
          have hbel2 := hbel.trans (hb2.mono hbel.size)
          go_wp2
          go_roundw
          case rel => exact ⟨k, acc + 2 ^ k, by omega, rfl, rfl, by rw [E3.out], HM2.out, HL2.out, hbel2, by simpa using HN.out⟩
          case measure => simp [intOf]
      · have hk63 : k < 64 := by omega
        obtain ⟨e1, e2, e3, e4, e4'⟩ := bit_lo hk63 hmod
        have e5 := or_bit (acc % W) k hk63 e4 e1
        have hhi : hiW acc < W := div_small hacc
        rw [← e3] at e4' e5
        have e5' : bits .or .u64 ((loW acc : Nat) : Int) (IntKind.u64.wrap (2 ^ k)) = ((loW (acc + 2 ^ k) : Nat) : Int) := e5
        have e4'' : loW (acc + 2 ^ k) < W := e4'
        have e2' : hiW (acc + 2 ^ k) = hiW acc := e2
        have hdm : hiW acc * W + loW (acc + 2 ^ k) = acc + 2 ^ k := by
          rw [← e2', Nat.mul_comm]
          exact Nat.div_add_mod _ _
        have HM1 := Lib.hid hm1
        have HM2 := Lib.hid hm2
        have HL2 := Lib.hid hl2
        have HACC := Lib.hid hacc
        have HLO := Lib.hid hlo
        have HHI := Lib.hid hhi
        have HDM := Lib.hid hdm
        have E2 := Lib.hid e2'
        have E4 := Lib.hid e4''
        clear hdm e1 e2 e3 e4 e4' e5 e2' e4'' hm1 hm2 hl2 hhi
        cases hu : under p cube (acc + 2 ^ k)
        · rw [hu] at hnext
          have HN := Lib.hid hnext
          have HU := Lib.hid hu
          clear hnext hu hmod hacc hm hlo hclose
          go_wp2_with fail
          refine (HCL.out (hiW acc) (loW (acc + 2 ^ k)) HHI.out E4.out).mono ?_
          rintro e w2 ⟨rfl, hb2⟩
          rw [HDM.out, HU.out]
          have hbel2 := hbel.trans (hb2.mono hbel.size)
          go_wp2
          go_roundw
          case rel => exact ⟨k, acc, by omega, rfl, rfl, rfl, HM1.out, HACC.out, hbel2, by simpa using HN.out⟩
          case measure => simp [intOf]
        · rw [hu] at hnext
          have HN := Lib.hid hnext
          have HU := Lib.hid hu
          clear hnext hu hmod hacc hm hlo hclose
          go_wp2_with fail
          refine (HCL.out (hiW acc) (loW (acc + 2 ^ k)) HHI.out E4.out).mono ?_
          rintro e w2 ⟨rfl, hb2⟩
          rw [HDM.out, HU.out]
          have hbel2 := hbel.trans (hb2.mono hbel.size)
          go_wp2
          go_roundw
          case rel => exact ⟨k, acc + 2 ^ k, by omega, rfl, by rw [E2.out], rfl, HM2.out, HL2.out, hbel2, by simpa using HN.out⟩
          case measure => simp [intOf]
theorem Root_any (p : Nat) (cube : Bool) (w : World) (hp : p < W) (h2 : 2 ≤ p) (h1000 : p ≤ 1000) :
    Calls Tryd.prog 28 #[.int .u64 p, .bool cube] w fun e w' => e = .returned (.int .u64 ((loW (most (under p cube) 69 0) : Nat) : Int)) ∧ Below w.heap.size w w' := by
  have HP := Lib.hid hp
  clear hp
  go_enter Tryd.func28, Tryd.ntmps28
  go_wp2_with fail
  refine (most_any p cube _ _ _ HP.out (by go_simp) (by go_simp) (by simp) (by simp; omega)).mono ?_
  rintro e w1 ⟨rfl, hb⟩
  go_wp2
  go_ret
  exact ⟨rfl, by ((repeat' (with_reducible first | exact Below.refl _ _ | assumption | refine Below.drew ?_ | refine below_drewN ?_ _ | refine Below.setCell ?_ ?_ _ | refine Below.alloc ?_ ?_ _ | refine Below.ext ?_ ?_ _ | refine Below.trans ?_ (Below.mono ‹_› ?_))) <;> first | omega | (simp; done) | (simp; omega))⟩
theorem Root_out (p : Nat) (cube : Bool) (w : World) (h : p < 2 ∨ 1000 < p) :
    Calls Tryd.prog 28 #[.int .u64 p, .bool cube] w fun e w' => e = .returned (.int .u64 0) ∧ Below w.heap.size w w' := by
  go_enter Tryd.func28, Tryd.ntmps28
  rcases h with h | h
  · go_wp2
    go_ret
    exact ⟨rfl, by ((repeat' (with_reducible first | exact Below.refl _ _ | assumption | refine Below.drew ?_ | refine below_drewN ?_ _ | refine Below.setCell ?_ ?_ _ | refine Below.alloc ?_ ?_ _ | refine Below.ext ?_ ?_ _ | refine Below.trans ?_ (Below.mono ‹_› ?_))) <;> first | omega | (simp; done) | (simp; omega))⟩
  · have h' : ¬ p < 2 := by omega
    go_wp2
    go_ret
    exact ⟨rfl, by ((repeat' (with_reducible first | exact Below.refl _ _ | assumption | refine Below.drew ?_ | refine below_drewN ?_ _ | refine Below.setCell ?_ ?_ _ | refine Below.alloc ?_ ?_ _ | refine Below.ext ?_ ?_ _ | refine Below.trans ?_ (Below.mono ‹_› ?_))) <;> first | omega | (simp; done) | (simp; omega))⟩
end Go.Proofs.YtpgadpnaekhiaaaDoor.Root
