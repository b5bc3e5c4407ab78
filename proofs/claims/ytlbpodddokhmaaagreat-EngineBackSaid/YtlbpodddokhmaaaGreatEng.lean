/-
  The engine: Size, Real, Ideal, Len; what its laws ask first.
  Conditions: none.
-/
import Derived.Test.YtlbpodddokhmaaaGreatFrame
import Derived.WalkLawsBesides
import Derived.Lib.Hide
namespace Go.Proofs.YtlbpodddokhmaaaGreat.Eng
open Go.ChangeShapes Go.WideShapes Go.ChangeAt Go.RowKit
theorem nil_ahead_real (n : Nat) (w : World) : (nilAhead (n + 1) 51 (.agg #[]) "dromond/engine.entries").run Tryz.prog w = .ok (some false) w := by kernel_rfl
theorem method_real (n : Nat) (w : World) : (method (n + 1) 51 (.agg #[]) "dromond/engine.entries").run Tryz.prog w = .ok (74, .agg #[]) w := by kernel_rfl
theorem nil_ahead_ideal (n : Nat) (w : World) (a : Addr) : (nilAhead (n + 1) 56 (.pointer (some a)) "dromond/engine.entries").run Tryz.prog w = .ok (some false) w := by kernel_rfl
theorem method_ideal (n : Nat) (w : World) (a : Addr) : (method (n + 1) 56 (.pointer (some a)) "dromond/engine.entries").run Tryz.prog w = .ok (151, .pointer (some a)) w := by kernel_rfl

def keyBytes (n : Int) : Int := if n = 1 then 16 else if n = 3 then 32 else 0
def bits (n : Int) : Int := if n = 5 then 256 else if n = 6 then 384 else if n = 7 then 512 else 0
def size (n : Int) : Int := if n = 1 then 16 else if n = 3 then 16 else if n = 5 then 32 else if n = 6 then 48 else if n = 7 then 64 else 0
theorem keyBytes_any (n : Int) (w : World) : Calls Tryz.prog 31 #[.int .i64 n] w fun e w' => e = .returned (.int .i64 (keyBytes n)) ∧ w = w' := by
  go_enter Tryz.func31, Tryz.ntmps31
  go_wp2
  all_goals (go_ret; refine ⟨?_, rfl⟩; simp_all [keyBytes])
theorem bits_any (n : Int) (w : World) : Calls Tryz.prog 32 #[.int .i64 n] w fun e w' => e = .returned (.int .i64 (bits n)) ∧ w = w' := by
  go_enter Tryz.func32, Tryz.ntmps32
  go_wp2
  all_goals (go_ret; refine ⟨?_, rfl⟩; simp_all [bits])
theorem size_any (n : Int) (w : World) : Calls Tryz.prog 21 #[.int .i64 n] w fun e w' => e = .returned (.int .i64 (size n)) ∧ w = w' := by
  have hs : size n = if 0 < keyBytes n then 16 else bits n / 8 := by unfold size keyBytes bits; (repeat' split) <;> first | rfl | omega
  have hb : 0 ≤ bits n ∧ bits n ≤ 512 := by unfold bits; (repeat' split) <;> omega
  have H := Lib.hid hs
  clear hs
  go_enter Tryz.func21, Tryz.ntmps21
  go_wp2_with (first | (go_at_call 31; refine (keyBytes_any _ _).mono ?_; rintro e w' ⟨rfl, rfl⟩) | (go_at_call 32; refine (bits_any _ _).mono ?_; rintro e w' ⟨rfl, rfl⟩))
  · go_ret; exact ⟨by rw [H.out, if_pos (by assumption)]; rfl, rfl⟩
  · go_ret; exact ⟨by rw [H.out, if_neg (by omega)]; rfl, rfl⟩
theorem real_any (w : World) : Calls Tryz.prog 8 #[] w fun e w' => e = .returned (.pointer (some ⟨w.heap.size, 0, none⟩)) ∧ w.alloc (.cells #[.iface 51 (.agg #[])] 55) = w' := by
  go_enter Tryz.func8, Tryz.ntmps8
  go_wp2
  go_ret
  exact ⟨rfl, rfl⟩
theorem ideal_any (w : World) : Calls Tryz.prog 9 #[] w fun e w' => e = .returned (.pointer (some ⟨w.heap.size + 1, 0, none⟩)) ∧ (w.alloc (.cells #[.slice none 0 0] 59)).alloc (.cells #[.iface 56 (.pointer (some ⟨w.heap.size, 0, none⟩))] 55) = w' := by
  go_enter Tryz.func9, Tryz.ntmps9
  go_wp2
  go_ret
  exact ⟨rfl, rfl⟩
theorem rentries_any (w : World) : Calls Tryz.prog 74 #[.agg #[]] w fun e w' => e = .returned (.int .i64 0) ∧ Below w.heap.size w w' := by
  go_enter Tryz.func74, Tryz.ntmps74
  go_wp2
  go_ret
  exact ⟨rfl, (Below.refl _ _).alloc (Nat.le_refl _) _⟩
theorem len_real (a : Addr) (w : World) (h : w.cell? a = some (.iface 51 (.agg #[]))): Calls Tryz.prog 18 #[.pointer (some a)] w fun e w' => e = .returned (.int .i64 0) ∧ Below w.heap.size w w' := by
  have h1 := nil_ahead_real
  have h2 := method_real
  go_enter Tryz.func18, Tryz.ntmps18
  go_wp2_with (go_at_call 74; refine (rentries_any _).mono ?_; rintro e w' ⟨rfl, hb⟩)
  go_ret
  exact ⟨rfl, hb⟩
theorem len_ideal (a b : Addr) (l c : Nat) (p : Option Addr) (w : World) (h : w.cell? a = some (.iface 56 (.pointer (some b)))) (h' : w.cell? b = some (.slice p l c)) : Calls Tryz.prog 18 #[.pointer (some a)] w fun e w' => e = .returned (.int .i64 l) ∧ w = w' := by
  have h1 := nil_ahead_ideal
  have h2 := method_ideal
  go_enter Tryz.func18, Tryz.ntmps18
  go_wp2_with fail
  go_enter Tryz.func151, Tryz.ntmps151
  go_wp2
  go_ret
  exact ⟨rfl, rfl⟩
theorem awake_any (w : World) : Calls Tryz.prog 6 #[] w fun e w' => e = .returned (.bool true) ∧ Below w.heap.size w w' := by
  have h6 : size 6 = 48 := by decide
  go_enter Tryz.func6, Tryz.ntmps6
  go_wp2_with fail
  refine (ideal_any _).mono ?_; rintro e w1 ⟨rfl, rfl⟩
  go_wp2_with fail
  refine (real_any _).mono ?_; rintro e w1 ⟨rfl, rfl⟩
  go_wp2_with fail
  refine (size_any _ _).mono ?_; rintro e w1 ⟨rfl, rfl⟩
  go_wp2_with fail
  refine (len_ideal _ ⟨w.heap.size, 0, none⟩ 0 0 none _ (by go_simp) (by go_simp)).mono ?_; rintro e w1 ⟨rfl, rfl⟩
  go_wp2
  go_ret
  exact ⟨rfl, (((Below.refl _ _).alloc (by simp) _).alloc (by simp) _).alloc (by simp; omega) _⟩
end Go.Proofs.YtlbpodddokhmaaaGreat.Eng
