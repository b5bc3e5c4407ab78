/-
  The walk of gcm's blocks: read, bytes8, write, Times.
  Conditions: named at each.
-/
import Derived.Test.YtnnoimikoddbcaaGf3
import Derived.Test.YtnnoimikoddbcaaArr
import Derived.StillTailTactics
namespace Go.Proofs.Ytnnoimikoddbcaa.Gf
open Go.ChangeShapes Go.WideShapes Go.ChangeAt Go.RowKit Go.Deep
open Go.Proofs.Ytnnoimikoddbcaa.Field (X mul one R)
set_option maxRecDepth 100000 in
theorem read_any (l : List UInt8) (w : World) (hl : l.length = 16) : Calls Try.prog 24 #[.string (B l)] w fun e w' => e = .returned (el (rd l)) ∧ Below w.heap.size w w' := by
  have h1 : ∀ W0 : World, Calls Try.prog 37 #[.string (B l)] W0 fun e w' => e = .returned (.int .u64 ((num l 8 : Nat) : Int)) ∧ w' = W0 := fun W0 => (number_any l W0 (by omega)).mono fun _ _ h => ⟨h.1, h.2.symm⟩
  have h2 : ∀ W0 : World, Calls Try.prog 37 #[.string (B (l.drop 8))] W0 fun e w' => e = .returned (.int .u64 ((num (l.drop 8) 8 : Nat) : Int)) ∧ w' = W0 := fun W0 => (number_any (l.drop 8) W0 (by simp; omega)).mono fun _ _ h => ⟨h.1, h.2.symm⟩
  rw [← rd_hi] at h1
  rw [← rd_lo] at h2
  unfold el
  generalize hiW (rd l) = h at *
  generalize loW (rd l) = o at *
  have H1 := Lib.hid h1
  have H2 := Lib.hid h2
  clear h1 h2
  have h8 : 8 ≤ l.length := by omega
  have h8' : (8 : Int) ≤ (l.length : Int) := by omega
  clear hl
  go_enter Try.func24, Try.ntmps24
  go_wp2_with fail
  go_still_tail 6, (by kernel_rfl)
  still_call (H1.out _)
  still_step
  still_step
  show wpStill _ _ (w.alloc (.cells #[.int .u64 0, .int .u64 0] 49)).drew _ _ _
  still_call (H2.out _)
  still_step
  try refine wpStill_nil ?_
  show wpList _ _ _ _ _ (w.alloc (.cells #[.int .u64 0, .int .u64 0] 49)).drew
  go_wp2
  exact bodyPost_ret (v := .agg #[.int .u64 h, .int .u64 o]) (by simp [results, Try.results24, go_sem]) rfl ⟨rfl, by ((repeat' (with_reducible first | exact Below.refl _ _ | assumption | refine Below.drew ?_ | refine below_drewN ?_ _ | refine Below.setCell ?_ ?_ _ | refine Below.alloc ?_ ?_ _ | refine Below.ext ?_ ?_ _ | refine Below.trans ?_ (Below.mono ‹_› ?_))) <;> first | omega | (simp; done) | (simp; omega))⟩
/-- A number's eight bytes. -/
def byteAt (n k : Nat) : Nat := n / 2 ^ (8 * (7 - k)) % 256
def be8 (n : Nat) : List Nat := (List.range 8).map (byteAt n)
set_option maxRecDepth 100000 in
theorem bytes8_any (n : Nat) (w : World) (_hn : n < 18446744073709551616) : Calls Try.prog 28 #[.int .u64 n] w fun e w' => e = .returned (.string (NB (be8 n))) ∧ Below w.heap.size w w' := by
  go_enter Try.func28, Try.ntmps28
  go_wp2
  go_loopw [5] (fun s5 wr => ∃ (i : Nat) (l : List Nat), i ≤ 8 ∧ l.length = 8 ∧ s5 = .int .i64 i ∧ wr = w.alloc (.cells (nums .u8 l) 64) ∧ ∀ k, k < i → l.getD k 0 = byteAt n k) (fun s _ => 8 - (intOf s).toNat)
  case atStart => exact ⟨0, [0, 0, 0, 0, 0, 0, 0, 0], by omega, rfl, rfl, rfl, by omega⟩
  case round =>
    obtain ⟨i, l, hi, hl, rfl, rfl, hk⟩ := hrel
    by_cases h8 : i = 8
    · subst h8
      have e : l = be8 n := by
        apply List.ext_getElem (by simp [be8, hl])
        intro j h1 h2
        have := hk j (by omega)
        rw [List.getD_eq_getElem?_getD, List.getElem?_eq_getElem h1] at this
        simpa [be8] using this
      have hconv := string_new (P := Try.prog) w 64 24 9 5 8 8 l Try.underlying24 Try.underlying5 Try.underlying9 hl
      have HE := Lib.hid e
      clear e hk
      go_wp2
      go_ret
      exact ⟨by rw [HE.out]; rfl, by ((repeat' (with_reducible first | exact Below.refl _ _ | assumption | refine Below.drew ?_ | refine below_drewN ?_ _ | refine Below.setCell ?_ ?_ _ | refine Below.alloc ?_ ?_ _ | refine Below.ext ?_ ?_ _ | refine Below.trans ?_ (Below.mono ‹_› ?_))) <;> first | omega | (simp; done) | (simp; omega))⟩
    · have hlt : i < 8 := by omega
      have hget := nums_getD .u8 (l := l) (i := i) (by omega)
      have hst : (n : Int) / 2 ^ (8 * (7 - i)) % 256 = ((byteAt n i : Nat) : Int) := by unfold byteAt; simp
      have HK := Lib.hid hk
      clear hk
      go_wp2
      go_round
      case rel => 
        refine ⟨i + 1, l.set i (byteAt n i), by omega, by simp [hl], by go_num, ?_, ?_⟩
        · rw [nums_set]
        · intro k hki
          by_cases e : k = i
          · subst e; simp [List.getD, hl, hlt]
          · have := HK.out k (by omega)
            rw [← this]; simp [List.getD, Ne.symm e]
      case measure => simp [intOf]; omega
set_option maxRecDepth 100000 in
theorem write_any (e : Nat) (w : World) (he : e < 2 ^ 128) : Calls Try.prog 26 #[el e] w fun r w' => r = .returned (.string (NB (be8 (hiW e) ++ be8 (loW e)))) ∧ Below w.heap.size w w' := by
  have hh : hiW e < 18446744073709551616 := by unfold hiW; rw [Nat.shiftRight_eq_div_pow]; omega
  have hlo := loW_lt e
  have h1 := fun W0 => bytes8_any (hiW e) W0 hh
  have h2 := fun W0 => bytes8_any (loW e) W0 hlo
  have hcat : NB (be8 (hiW e) ++ be8 (loW e)) = NB (be8 (hiW e)) ++ NB (be8 (loW e)) := by unfold NB; rw [List.map_append, B_append]
  rw [hcat]
  clear hh hlo hcat
  unfold el
  generalize hiW e = h at *
  generalize loW e = l at *
  unfold NB at *
  have hx : ((be8 h).map UInt8.ofNat).length = 8 := by simp [be8]
  have hy : ((be8 l).map UInt8.ofNat).length = 8 := by simp [be8]
  generalize (be8 h).map UInt8.ofNat = x at *
  generalize (be8 l).map UInt8.ofNat = y at *
  have H1 := Lib.hid h1
  have H2 := Lib.hid h2
  clear h1 h2
  go_enter Try.func26, Try.ntmps26
  go_wp2_with fail
  (refine wp_region_ext_lit (by kernel_rfl) (by kernel_rfl) ?_; (repeat (any_goals (first | go_big_quiet_step ((first | (go_at_call 28; with_reducible first | exact Calls.ext_of' (H1.out _) | exact Calls.ext_of (H1.out _) | exact Calls.ext_of_same' (H1.out _) | exact Calls.ext_of_same (H1.out _)) | (go_at_call 28; with_reducible first | exact Calls.ext_of' (H2.out _) | exact Calls.ext_of (H2.out _) | exact Calls.ext_of_same' (H2.out _) | exact Calls.ext_of_same (H2.out _)))) | quiet_step ((first | (go_at_call 28; with_reducible first | exact Calls.ext_of' (H1.out _) | exact Calls.ext_of (H1.out _) | exact Calls.ext_of_same' (H1.out _) | exact Calls.ext_of_same (H1.out _)) | (go_at_call 28; with_reducible first | exact Calls.ext_of' (H2.out _) | exact Calls.ext_of (H2.out _) | exact Calls.ext_of_same' (H2.out _) | exact Calls.ext_of_same (H2.out _))))))); refine wpQuiet_nil ?_; rintro _ ⟨u1, rfl⟩)
  go_wp2
  go_ret
  exact ⟨rfl, by ((repeat' (with_reducible first | exact Below.refl _ _ | assumption | refine Below.drew ?_ | refine below_drewN ?_ _ | refine Below.setCell ?_ ?_ _ | refine Below.alloc ?_ ?_ _ | refine Below.ext ?_ ?_ _ | refine Below.trans ?_ (Below.mono ‹_› ?_))) <;> first | omega | (simp; done) | (simp; omega))⟩
end Go.Proofs.Ytnnoimikoddbcaa.Gf
