/-
  The walks of above and of the closure in Root: each answers the comparison of long numbers that it stands for.
  Conditions: at most 1000 words.
-/
import Derived.Test.YtpgadpnaekhiaaaDoorRoot
namespace Go.Proofs.YtpgadpnaekhiaaaDoor.Root
open Go.ChangeShapes Go.WideShapes Go.ChangeAt Go.RowKit Go.Shelf Go.Deep
theorem val_lt (g : Nat → Nat) (h : ∀ j, g j < W) : ∀ n, val g n < W ^ n
  | 0 => by simp [val]
  | n + 1 => by
    rw [val_succ, Nat.pow_succ]
    have := val_lt g h n
    have hg := h n
    have : g n * W ^ n + W ^ n ≤ W ^ n * W := by
      rw [Nat.mul_comm (W ^ n) W, ← Nat.succ_mul]
      exact Nat.mul_le_mul_right _ hg
    omega
theorem val_mono (g : Nat → Nat) : ∀ {m n : Nat}, m ≤ n → val g m ≤ val g n
  | m, 0, h => by rw [Nat.le_zero.1 h]; exact Nat.le_refl _
  | m, n + 1, h => by
    by_cases e : m = n + 1
    · rw [e]; exact Nat.le_refl _
    · exact Nat.le_trans (val_mono g (by omega : m ≤ n)) (by rw [val_succ]; omega)
theorem val_zeros (g : Nat → Nat) (n : Nat) : ∀ {m : Nat}, n ≤ m → (∀ j, n ≤ j → j < m → g j = 0) → val g m = val g n
  | 0, h, _ => by rw [Nat.le_zero.1 h]
  | m + 1, h, hz => by
    by_cases e : n = m + 1
    · rw [e]
    · rw [val_succ, hz m (by omega) (by omega), Nat.zero_mul, Nat.add_zero]
      exact val_zeros g n (by omega) fun j h1 h2 => hz j h1 (by omega)
/-- 'above': is a long number above p times W to the n? -/
def aboveB (g : Nat → Nat) (la p n : Nat) : Bool := decide (p * W ^ n < val g la)
theorem above_top {g : Nat → Nat} {la p n i : Nat} (hp : p < W) (hi : n < i) (hla : i < la) (hg : g i ≠ 0) : aboveB g la p n = true := by
  unfold aboveB
  rw [decide_eq_true_eq]
  have h1 := val_mono g (show i + 1 ≤ la from hla)
  rw [val_succ] at h1
  have h2 : W ^ i ≤ g i * W ^ i := Nat.le_mul_of_pos_left _ (Nat.pos_of_ne_zero hg)
  have h3 : W ^ (n + 1) ≤ W ^ i := Nat.pow_le_pow_right W_pos hi
  have h4 : p * W ^ n < W ^ (n + 1) := by
    rw [Nat.pow_succ, Nat.mul_comm]
    exact Nat.mul_lt_mul_of_pos_left hp (Nat.pow_pos W_pos)
  omega
theorem above_mid {g : Nat → Nat} {la p n : Nat} (hg : ∀ j, g j < W) (hn : n < la) (hz : ∀ j, n < j → j < la → g j = 0) (hne : g n ≠ p) : aboveB g la p n = decide (p < g n) := by
  have e : val g la = val g (n + 1) := val_zeros g (n + 1) hn fun j h1 h2 => hz j h1 h2
  unfold aboveB
  rw [e, val_succ, Bool.eq_iff_iff, decide_eq_true_eq, decide_eq_true_eq]
  have hv := val_lt g hg n
  constructor
  · intro h
    rcases Nat.lt_or_ge p (g n) with h' | h'
    · exact h'
    · exfalso
      have h'' : g n + 1 ≤ p := by omega
      have := Nat.mul_le_mul_right (W ^ n) h''
      rw [Nat.succ_mul] at this
      omega
  · intro h
    have := Nat.mul_le_mul_right (W ^ n) (show p + 1 ≤ g n from h)
    rw [Nat.succ_mul] at this
    have := Nat.pow_pos (n := n) W_pos
    omega
theorem above_eq {g : Nat → Nat} {la p n : Nat} (hn : n < la) (hz : ∀ j, n < j → j < la → g j = 0) (he : g n = p) : aboveB g la p n = decide (0 < val g n) := by
  have e : val g la = val g (n + 1) := val_zeros g (n + 1) hn fun j h1 h2 => hz j h1 h2
  unfold aboveB
  rw [e, val_succ, he, Bool.eq_iff_iff, decide_eq_true_eq, decide_eq_true_eq]
  omega
theorem val_pos {g : Nat → Nat} {n k : Nat} (hk : k < n) (hg : g k ≠ 0) : 0 < val g n := by
  have h1 := val_mono g (show k + 1 ≤ n from hk)
  rw [val_succ] at h1
  have h2 : 0 < g k * W ^ k := Nat.mul_pos (Nat.pos_of_ne_zero hg) (Nat.pow_pos W_pos)
  omega
theorem above_any (g : Nat → Nat) (la p n ba ca : Nat) (w : World) (hA : w.rowIs ba 45 la (fun j => .int .u64 (g j))) (hca : la ≤ ca) (hla : la ≤ 1000) (hW : ∀ j, g j < W) (hp : p < W) (hn : n < la) :
    Calls Tryd.prog 41 #[.slice (some ⟨ba, 0, none⟩) la ca, .int .u64 p, .int .i64 n] w fun e w' => e = .returned (.bool (aboveB g la p n)) ∧ w = w' := by
  have HA := Lib.hid hA
  have HW := Lib.hid hW
  have HP := Lib.hid hp
  clear hA hW hp
  go_enter Tryd.func41, Tryd.ntmps41
  go_wp2
  go_loop [7] (fun s => ∃ i : Nat, n ≤ i ∧ i < la ∧ s = .int .i64 i ∧ ∀ j, i < j → j < la → g j = 0) (fun s => (intOf s).toNat)
  case atStart => exact ⟨la - 1, by omega, by omega, by rw [show ((la - 1 : Nat) : Int) = (la : Int) - 1 by omega], fun j h1 h2 => by omega⟩
  case round =>
    obtain ⟨i, hni, hil, rfl, hz⟩ := hrel
    have hcell := HA.out.cell hil
    by_cases hi : n < i
    · cases h0 : (((g i : Nat) : Int) == 0)
      · have e : aboveB g la p n = true := above_top HP.out hi hil (by rw [beq_eq_false_iff_ne] at h0; omega)
        have HE := Lib.hid e
        clear e hz
        go_wp2
        go_ret
        exact ⟨by rw [HE.out]; rfl, rfl⟩
      · have hz' : ∀ j, i - 1 < j → j < la → g j = 0 := fun j h1 h2 => by
          by_cases e : j = i
          · rw [e]; rw [beq_iff_eq] at h0; omega
          · exact hz j (by omega) h2
        have HZ := Lib.hid hz'
        clear hz hz'
        go_wp2
        go_round
        case rel => exact ⟨i - 1, by omega, by omega, by rw [show ((i - 1 : Nat) : Int) = (i : Int) - 1 by omega], HZ.out⟩
        case measure => simp [intOf]; omega
    · obtain rfl : i = n := by omega
      have HZ := Lib.hid hz
      clear hz
      cases hpp : (((g i : Nat) : Int) == (p : Int))
      · have e : aboveB g la p i = decide (p < g i) := above_mid HW.out hn HZ.out (by rw [beq_eq_false_iff_ne] at hpp; omega)
        have HE := Lib.hid e
        clear e
        go_wp2
        go_ret
        exact ⟨by rw [HE.out]; exact ret_bool (by simp), rfl⟩
      · have e : aboveB g la p i = decide (0 < val g i) := above_eq hn HZ.out (by rw [beq_iff_eq] at hpp; omega)
        have HE := Lib.hid e
        clear e
        go_wp2
        go_loop [39] (fun s => ∃ k : Nat, k ≤ i ∧ s = .int .i64 k ∧ ∀ j, j < k → g j = 0) (fun s => i - (intOf s).toNat)
        case atStart => exact ⟨0, Nat.zero_le _, rfl, fun j h => by omega⟩
        case round =>
          obtain ⟨k, hk, rfl, hzz⟩ := hrel
          by_cases hki : k < i
          · have hck := HA.out.cell (i := k) (by omega)
            cases hg0 : (((g k : Nat) : Int) == 0)
            · have e : decide (0 < val g i) = true := by
                rw [decide_eq_true_eq]
                exact val_pos hki (by rw [beq_eq_false_iff_ne] at hg0; omega)
              have HE2 := Lib.hid e
              clear e hzz
              go_wp2
              go_ret
              exact ⟨by rw [HE.out, HE2.out]; rfl, rfl⟩
            · have hz' : ∀ j, j < k + 1 → g j = 0 := fun j h => by
                by_cases e : j = k
                · rw [e]; rw [beq_iff_eq] at hg0; omega
                · exact hzz j (by omega)
              have HZ2 := Lib.hid hz'
              clear hz' hzz
              go_wp2
              go_round
              case rel => exact ⟨k + 1, by omega, by go_num, HZ2.out⟩
              case measure => simp [intOf]; omega
          · obtain rfl : k = i := by omega
            have e : decide (0 < val g k) = false := by
              have : val g k = 0 := by rw [val_zeros g 0 (Nat.zero_le _) fun j _ h => hzz j h]; rfl
              rw [this]; rfl
            have HE2 := Lib.hid e
            clear e hzz
            go_wp2
            go_ret
            exact ⟨by rw [HE.out, HE2.out]; rfl, rfl⟩
/-- A power of a root's number against the number itself. -/
def under (p : Nat) (cube : Bool) (x : Nat) : Bool := if cube then !decide (p * W ^ 3 < x * x * x) else !decide (p * W ^ 2 < x * x)
/-- A number of two words, the lower one first. -/
def two (lo hi : Nat) : Nat → Nat := fun j => if j = 0 then lo else if j = 1 then hi else 0
theorem two_lt {lo hi : Nat} (h1 : hi < W) (h2 : lo < W) : ∀ j, two lo hi j < W := fun j => by
  unfold two
  split
  · exact h2
  · split
    · exact h1
    · exact W_pos
theorem two_val (lo hi : Nat) : val (two lo hi) 2 = hi * W + lo := by
  simp [val, two]
  omega
theorem closure_any (hi lo p : Nat) (cube : Bool) (cA pA : Addr) (w : World) (hhi : hi < W) (hlo : lo < W) (hp : p < W) (hc : w.cell? cA = some (.bool cube)) (hpc : w.cell? pA = some (.int .u64 p)) (hcl : cA.block < w.heap.size) (hpl : pA.block < w.heap.size) :
    Calls Tryd.prog 39 #[.int .u64 hi, .int .u64 lo, .pointer (some cA), .pointer (some pA)] w fun e w' => e = .returned (.bool (under p cube (hi * W + lo))) ∧ Below w.heap.size w w' := by
  have HH := Lib.hid hhi
  have HL := Lib.hid hlo
  have HP := Lib.hid hp
  clear hhi hlo hp
  go_enter Tryd.func39, Tryd.ntmps39
  have hx : (w.alloc (.cells #[.int .u64 lo, .int .u64 hi] 45)).rowIs w.heap.size 45 2 (fun j => .int .u64 (two lo hi j)) :=
    World.rowIs_alloc w #[.int .u64 lo, .int .u64 hi] _ _ (fun i h => by
      match i, h with
      | 0, _ => rfl
      | 1, _ => rfl)
  have hxW := two_lt HH.out HL.out
  go_wp2_with fail
  refine (times_any (two lo hi) (two lo hi) 2 2 _ _ 2 2 _ hx hx (by omega) (by omega) hxW hxW).mono ?_
  rintro e w1 hpost
  obtain ⟨c, rfl, hrow, hWc, hval, hbel⟩ := hpost
  have hb1 : Below w.heap.size w w1 := ((Below.refl _ _).alloc (Nat.le_refl _) _).trans (hbel.mono (by simp))
  have hc1 : w1.cell? cA = some (.bool cube) := (hb1.cell hcl).trans hc
  have hpc1 : w1.cell? pA = some (.int .u64 p) := (hb1.cell hpl).trans hpc
  have hxr : w1.rowIs w.heap.size 45 2 (fun j => .int .u64 (two lo hi j)) := hx.of_block (hbel.block _ (by simp))
  have hrow' : w1.rowIs (w.heap.size + 1) 45 4 (fun j => .int .u64 (c j)) := by simpa using hrow
  have hval' : val c 4 = (hi * W + lo) * (hi * W + lo) := by rw [hval, two_val]
  have HX := Lib.hid hxr
  have HR := Lib.hid hrow'
  have HV := Lib.hid hval'
  have HW := Lib.hid hWc
  clear hx hxr hrow hrow' hval hval' hWc
  cases cube
  · have hf : under p false (hi * W + lo) = !aboveB c 4 p 2 := by unfold under aboveB; rw [HV.out]; rfl
    have HF := Lib.hid hf
    clear hf
    go_wp2_with fail
    refine (above_any c 4 p 2 _ 4 _ HR.out (by omega) (by omega) HW.out HP.out (by omega)).mono ?_
    rintro e w2 ⟨rfl, rfl⟩
    go_wp2
    go_ret
    exact ⟨by rw [HF.out]; rfl, hb1⟩
  · go_wp2_with fail
    refine (times_any c (two lo hi) 4 2 _ _ 4 2 _ HR.out HX.out (by omega) (by omega) HW.out hxW).mono ?_
    rintro e w2 hpost
    obtain ⟨c2, rfl, hrow, hWc, hval, hbel2⟩ := hpost
    have hb2 : Below w.heap.size w w2 := hb1.trans (hbel2.mono hb1.size)
    have hpc2 : w2.cell? pA = some (.int .u64 p) := (hb2.cell hpl).trans hpc
    have hval' : val c2 6 = (hi * W + lo) * (hi * W + lo) * (hi * W + lo) := by rw [hval, two_val, HV.out]
    have hf : under p true (hi * W + lo) = !aboveB c2 6 p 3 := by unfold under aboveB; rw [hval']; rfl
    have HF := Lib.hid hf
    have HR2 := Lib.hid hrow
    have HW2 := Lib.hid hWc
    clear hf hrow hval hval' hWc
    go_wp2_with fail
    refine (above_any c2 6 p 3 _ 6 _ HR2.out (by omega) (by omega) HW2.out HP.out (by omega)).mono ?_
    rintro e w3 ⟨rfl, rfl⟩
    go_wp2
    go_ret
    exact ⟨by rw [HF.out]; rfl, hb2⟩
end Go.Proofs.YtpgadpnaekhiaaaDoor.Root
