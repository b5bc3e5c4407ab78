/-
  The engine: Size, Real, Ideal, Len; what its laws ask first.
  Conditions: none.
-/
import Derived.Test.YtlbpodddokhmaaaFrame
import Derived.WalkLawsBesides
import Derived.Lib.Hide
namespace Go.Proofs.Ytlbpodddokhmaaa.Eng
open Go.ChangeShapes Go.WideShapes Go.ChangeAt Go.RowKit
theorem nil_ahead_real (n : Nat) (w : World) : (nilAhead (n + 1) 49 (.agg #[]) "dromond/engine.entries").run Try.prog w = .ok (some false) w := by kernel_rfl
theorem method_real (n : Nat) (w : World) : (method (n + 1) 49 (.agg #[]) "dromond/engine.entries").run Try.prog w = .ok (35, .agg #[]) w := by kernel_rfl
theorem nil_ahead_ideal (n : Nat) (w : World) (a : Addr) : (nilAhead (n + 1) 35 (.pointer (some a)) "dromond/engine.entries").run Try.prog w = .ok (some false) w := by kernel_rfl
theorem method_ideal (n : Nat) (w : World) (a : Addr) : (method (n + 1) 35 (.pointer (some a)) "dromond/engine.entries").run Try.prog w = .ok (31, .pointer (some a)) w := by kernel_rfl

def keyBytes (n : Int) : Int := if n = 1 then 16 else if n = 3 then 32 else 0
def bits (n : Int) : Int := if n = 5 then 256 else if n = 6 then 384 else if n = 7 then 512 else 0
def size (n : Int) : Int := if n = 1 then 16 else if n = 3 then 16 else if n = 5 then 32 else if n = 6 then 48 else if n = 7 then 64 else 0
theorem keyBytes_any (n : Int) (w : World) : Calls Try.prog 14 #[.int .i64 n] w fun e w' => e = .returned (.int .i64 (keyBytes n)) ∧ w = w' := by
  go_enter Try.func14, Try.ntmps14
  go_wp2
  all_goals (go_ret; refine ⟨?_, rfl⟩; simp_all [keyBytes])
theorem bits_any (n : Int) (w : World) : Calls Try.prog 15 #[.int .i64 n] w fun e w' => e = .returned (.int .i64 (bits n)) ∧ w = w' := by
  go_enter Try.func15, Try.ntmps15
  go_wp2
  all_goals (go_ret; refine ⟨?_, rfl⟩; simp_all [bits])
theorem size_any (n : Int) (w : World) : Calls Try.prog 11 #[.int .i64 n] w fun e w' => e = .returned (.int .i64 (size n)) ∧ w = w' := by
  have hs : size n = if 0 < keyBytes n then 16 else bits n / 8 := by unfold size keyBytes bits; (repeat' split) <;> first | rfl | omega
  have hb : 0 ≤ bits n ∧ bits n ≤ 512 := by unfold bits; (repeat' split) <;> omega
  have H := Lib.hid hs
  clear hs
  go_enter Try.func11, Try.ntmps11
  go_wp2_with (first | (go_at_call 14; refine (keyBytes_any _ _).mono ?_; rintro e w' ⟨rfl, rfl⟩) | (go_at_call 15; refine (bits_any _ _).mono ?_; rintro e w' ⟨rfl, rfl⟩))
  · go_ret; exact ⟨by rw [H.out, if_pos (by assumption)]; rfl, rfl⟩
  · go_ret; exact ⟨by rw [H.out, if_neg (by omega)]; rfl, rfl⟩
theorem real_any (w : World) : Calls Try.prog 10 #[] w fun e w' => e = .returned (.pointer (some ⟨w.heap.size, 0, none⟩)) ∧ w.alloc (.cells #[.iface 49 (.agg #[])] 42) = w' := by
  go_enter Try.func10, Try.ntmps10
  go_wp2
  go_ret
  exact ⟨rfl, rfl⟩
theorem ideal_any (w : World) : Calls Try.prog 6 #[] w fun e w' => e = .returned (.pointer (some ⟨w.heap.size + 1, 0, none⟩)) ∧ (w.alloc (.cells #[.slice none 0 0] 38)).alloc (.cells #[.iface 35 (.pointer (some ⟨w.heap.size, 0, none⟩))] 42) = w' := by
  go_enter Try.func6, Try.ntmps6
  go_wp2
  go_ret
  exact ⟨rfl, rfl⟩
theorem rentries_any (w : World) : Calls Try.prog 35 #[.agg #[]] w fun e w' => e = .returned (.int .i64 0) ∧ Below w.heap.size w w' := by
  go_enter Try.func35, Try.ntmps35
  go_wp2
  go_ret
  exact ⟨rfl, (Below.refl _ _).alloc (Nat.le_refl _) _⟩
theorem len_real (a : Addr) (w : World) (h : w.cell? a = some (.iface 49 (.agg #[]))): Calls Try.prog 8 #[.pointer (some a)] w fun e w' => e = .returned (.int .i64 0) ∧ Below w.heap.size w w' := by
  have h1 := nil_ahead_real
  have h2 := method_real
  go_enter Try.func8, Try.ntmps8
  go_wp2_with (go_at_call 35; refine (rentries_any _).mono ?_; rintro e w' ⟨rfl, hb⟩)
  go_ret
  exact ⟨rfl, hb⟩
theorem len_ideal (a b : Addr) (l c : Nat) (p : Option Addr) (w : World) (h : w.cell? a = some (.iface 35 (.pointer (some b)))) (h' : w.cell? b = some (.slice p l c)) : Calls Try.prog 8 #[.pointer (some a)] w fun e w' => e = .returned (.int .i64 l) ∧ w = w' := by
  have h1 := nil_ahead_ideal
  have h2 := method_ideal
  go_enter Try.func8, Try.ntmps8
  go_wp2_with fail
  go_enter Try.func31, Try.ntmps31
  go_wp2
  go_ret
  exact ⟨rfl, rfl⟩
theorem awake_any (w : World) : Calls Try.prog 5 #[] w fun e w' => e = .returned (.bool true) ∧ Below w.heap.size w w' := by
  have h6 : size 6 = 48 := by decide
  go_enter Try.func5, Try.ntmps5
  go_wp2_with fail
  refine (ideal_any _).mono ?_; rintro e w1 ⟨rfl, rfl⟩
  go_wp2_with fail
  refine (real_any _).mono ?_; rintro e w1 ⟨rfl, rfl⟩
  go_wp2_with fail
  refine (size_any _ _).mono ?_; rintro e w1 ⟨rfl, rfl⟩
  go_wp2_with fail
  refine (len_ideal _ ⟨w.heap.size, 0, none⟩ 0 0 none _ (by go_simp) (by go_simp)).mono ?_; rintro e w1 ⟨rfl, rfl⟩
  go_wp2
  go_ret
  exact ⟨rfl, (((Below.refl _ _).alloc (by simp) _).alloc (by simp) _).alloc (by simp; omega) _⟩
end Go.Proofs.Ytlbpodddokhmaaa.Eng
