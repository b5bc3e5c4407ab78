/-
  The walks of the reference's filled and bits.
  Conditions: the texts are not longer than a million bytes.
-/
import Derived.Test.YtnnoimikoddbcaaRef08c
import Derived.Test.YtnnoimikoddbcaaGf8
namespace Go.Proofs.Ytnnoimikoddbcaa.Ref08
open Go.ChangeShapes Go.WideShapes Go.ChangeAt Go.RowKit Go.Deep Go.Proofs.Ytnnoimikoddbcaa.Gf
open Go.Proofs.Ytnnoimikoddbcaa.Aes (zeros zeros_length zeros_get)
def lenS : Value → Nat
  | .string b => b.size
  | _ => 0
theorem Z_succ (s : List UInt8) (j : Nat) : s ++ Z (j + 1) = (s ++ Z j) ++ [0] := by
  rw [Z, List.replicate_succ', ← List.append_assoc]; rfl
theorem filled_any (s : List UInt8) (w : World) (hs : s.length ≤ 1000000) : Calls Try.prog 30 #[.string (B s)] w fun e w' => e = .returned (.string (B (fillB s))) ∧ Below w.heap.size w w' := by
  go_enter Try.func30, Try.ntmps30
  go_wp2
  go_loopw [0] (fun s0 wr => ∃ (j : Nat) (l : List UInt8), j ≤ pad s.length ∧ s0 = .string (B l) ∧ l = s ++ Z j ∧ wr = w) (fun s0 _ => s.length + 16 - lenS s0)
  case atStart => exact ⟨0, s, by omega, rfl, by simp [Z], rfl⟩
  case round =>
    obtain ⟨j, l, hj, rfl, hl, rfl⟩ := hrel
    have hll : l.length = s.length + j := by rw [hl, List.length_append, Z_length]
    have HL := Lib.hid hl
    clear hl
    have hp : pad s.length = (16 - s.length % 16) % 16 := rfl
    by_cases hend : j = pad s.length
    · have h0 : ((l.length : Int) % 16 = 0) := by omega
      have HF := Lib.hid (show l = fillB s by rw [HL.out, hend]; rfl)
      clear hend hp hll hj
      go_wp2
      go_ret
      exact ⟨by rw [HF.out]; rfl, by ((repeat' (with_reducible first | exact Below.refl _ _ | assumption | refine Below.drew ?_ | refine below_drewN ?_ _ | refine Below.setCell ?_ ?_ _ | refine Below.alloc ?_ ?_ _ | refine Below.ext ?_ ?_ _ | refine Below.trans ?_ (Below.mono ‹_› ?_))) <;> first | omega | (simp; done) | (simp; omega))⟩
    · have h0 : ¬ ((l.length : Int) % 16 = 0) := by omega
      have hlt : j + 1 ≤ pad s.length := by omega
      have hbig : ¬ 9223372036854775807 < l.length + 1 := by omega
      have HLL := Lib.hid hll
      clear hend hll
      go_wp2
      go_round
      case rel => exact ⟨j + 1, l ++ [0], hlt, rfl, by rw [HL.out, Z_succ], trivial⟩
      case measure => have := HLL.out; simp [lenS, B_size]; omega
set_option maxHeartbeats 800000 in
set_option maxRecDepth 100000 in
theorem bits_any (s : List UInt8) (w : World) (hs : s.length ≤ 1000000) : Calls Try.prog 31 #[.string (B s)] w fun e w' => e = .returned (.string (B (lenB s.length))) ∧ Below w.heap.size w w' := by
  have hmk : (Instr.makeSlice 24 (.int .i64 8) (.int .i64 8)).run Try.prog w = .ok (.slice (some ⟨w.heap.size, 0, none⟩) 8 8) (w.alloc (.cells (nums .u8 (zeros 8)) 5)) := by
    have h := run_make_row' (P := Try.prog) 24 5 (.int .u8 0) 1 Try.underlying24 Bld.infoByte rfl .i64 .i64 8 (by omega) (by omega) w
    rw [show madeCells #[.int .u8 0] 8 = nums .u8 (zeros 8) by kernel_rfl] at h
    exact h
  generalize hm : 8 * s.length = m at *
  have hms : (8 : Int) * (s.length : Int) = (m : Int) := by omega
  have hmb : m ≤ 8000000 := by omega
  go_enter Try.func31, Try.ntmps31
  go_wp2
  clear hmk
  go_loopw [4, 5] (fun s4 s5 wr => ∃ (k q : Nat) (l : List Nat), k ≤ 8 ∧ s5 = .int .i64 (7 - (k : Int)) ∧ s4 = .int .i64 q ∧ q = m / 256 ^ k ∧ l.length = 8 ∧ (∀ j, j < 8 → l.getD j 0 = if 8 ≤ j + k then m / 256 ^ (7 - j) % 256 else 0) ∧ wr = w.alloc (.cells (nums .u8 l) 5)) (fun _ s _ => (intOf s + 1).toNat)
  case atStart => exact ⟨0, m, zeros 8, by omega, rfl, rfl, by simp, zeros_length 8, fun j hj => by rw [zeros_get, if_neg (by omega)], rfl⟩
  case round =>
    obtain ⟨k, q, l, hk, rfl, rfl, hq, hll, hl, rfl⟩ := hrel
    have HQ := Lib.hid hq
    have HL := Lib.hid hl
    have hqb : q ≤ 8000000 := by rw [hq]; exact Nat.le_trans (Nat.div_le_self _ _) hmb
    clear hq hl
    by_cases hend : k = 8
    · subst hend
      have hlb : l = be8 m := list_ext (by rw [hll]; simp [be8]) fun j hj => by
        rw [HL.out j (by omega), if_pos (by omega)]
        have h8 : j < 8 := by omega
        simp only [be8, List.getD, List.getElem?_map, List.getElem?_range h8, Option.map_some, Option.getD_some, byteAt]
        rw [Nat.pow_mul]
      have hconv := string_new (P := Try.prog) w 5 24 9 5 8 8 l Try.underlying24 Try.underlying5 Try.underlying9 hll
      have HE := Lib.hid (show NB l = B (lenB s.length) by rw [hlb, ← hm]; rfl)
      clear hlb
      go_wp2
      go_ret
      exact ⟨by rw [← HE.out]; rfl, by ((repeat' (with_reducible first | exact Below.refl _ _ | assumption | refine Below.drew ?_ | refine below_drewN ?_ _ | refine Below.setCell ?_ ?_ _ | refine Below.alloc ?_ ?_ _ | refine Below.ext ?_ ?_ _ | refine Below.trans ?_ (Below.mono ‹_› ?_))) <;> first | omega | (simp; done) | (simp; omega))⟩
    · have hi : (7 : Int) - (k : Int) = ((7 - k : Nat) : Int) := by omega
      have HN : ∃ i, i = 7 - k := ⟨_, rfl⟩
      obtain ⟨i, hi2⟩ := HN
      rw [← hi2] at hi
      rw [hi]
      have hi8 : i < 8 := by omega
      have hget := nums_getD .u8 (l := l) (i := i) (by omega)
      have hqm : (q : Int) % 256 = ((q % 256 : Nat) : Int) := by omega
      have hq2 : (q : Int) / 256 = ((q / 256 : Nat) : Int) := by omega
      have HKI := Lib.hid (show k + i = 7 by omega)
      have HQN := Lib.hid (show q / 256 = m / 256 ^ (k + 1) by rw [HQ.out, Nat.div_div_eq_div_mul, Nat.pow_succ])
      clear hi hi2 hend hk
      have hq3 : q % 256 < 256 := Nat.mod_lt _ (by omega)
      have hqmm : q % 256 = m / 256 ^ (7 - i) % 256 := by rw [HQ.out, show 7 - i = k by have := HKI.out; omega]
      have HQM := Lib.hid hqmm
      clear hqmm
      generalize q % 256 = v at *
      generalize q / 256 = q2 at *
      go_wp2
      go_round
      case rel =>
        have hki := HKI.out
        refine ⟨k + 1, q2, l.set i v, by omega, by go_num, rfl, HQN.out, by rw [List.length_set, hll], fun j hj => ?_, by rw [nums_set]⟩
        rw [getD_set _ _ _ _ (by omega)]
        by_cases hji : j = i
        · rw [if_pos hji, if_pos (by omega), hji, HQM.out]
        · rw [if_neg hji, HL.out j hj]
          by_cases h8 : 8 ≤ j + k
          · rw [if_pos h8, if_pos (by omega)]
          · rw [if_neg h8, if_neg (by omega)]
      case measure => simp [intOf]
end Go.Proofs.Ytnnoimikoddbcaa.Ref08
