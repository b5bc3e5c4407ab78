/-
  EngineSizes: for every variant, Size is the reference's size, and a real engine has no entries.
  Conditions: none.
-/
import Derived.Test.YthoickghfjgmmaaFrame
import Derived.WalkLawsBesides
import Derived.Lib.Hide
namespace Go.Proofs.Ythoickghfjgmmaa.EngineSizes
open Go.ChangeShapes Go.WideShapes Go.ChangeAt Go.RowKit
theorem nil_ahead_real (n : Nat) (w : World) : (nilAhead (n + 1) 81 (.agg #[]) "dromond/engine.entries").run Try.prog w = .ok (some false) w := by kernel_rfl
theorem method_real (n : Nat) (w : World) : (method (n + 1) 81 (.agg #[]) "dromond/engine.entries").run Try.prog w = .ok (110, .agg #[]) w := by kernel_rfl
theorem nil_ahead_ideal (n : Nat) (w : World) (a : Addr) : (nilAhead (n + 1) 110 (.pointer (some a)) "dromond/engine.entries").run Try.prog w = .ok (some false) w := by kernel_rfl
theorem method_ideal (n : Nat) (w : World) (a : Addr) : (method (n + 1) 110 (.pointer (some a)) "dromond/engine.entries").run Try.prog w = .ok (111, .pointer (some a)) w := by kernel_rfl

def keyBytes (n : Int) : Int := if n = 1 then 16 else if n = 3 then 32 else 0
def bits (n : Int) : Int := if n = 5 then 256 else if n = 6 then 384 else if n = 7 then 512 else 0
def size (n : Int) : Int := if n = 1 then 16 else if n = 3 then 16 else if n = 5 then 32 else if n = 6 then 48 else if n = 7 then 64 else 0
theorem keyBytes_any (n : Int) (w : World) : Calls Try.prog 41 #[.int .i64 n] w fun e w' => e = .returned (.int .i64 (keyBytes n)) ∧ w = w' := by
  go_enter Try.func41, Try.ntmps41
  go_wp2
  all_goals (go_ret; refine ⟨?_, rfl⟩; simp_all [keyBytes])
theorem bits_any (n : Int) (w : World) : Calls Try.prog 42 #[.int .i64 n] w fun e w' => e = .returned (.int .i64 (bits n)) ∧ w = w' := by
  go_enter Try.func42, Try.ntmps42
  go_wp2
  all_goals (go_ret; refine ⟨?_, rfl⟩; simp_all [bits])
theorem size_any (n : Int) (w : World) : Calls Try.prog 13 #[.int .i64 n] w fun e w' => e = .returned (.int .i64 (size n)) ∧ w = w' := by
  have hs : size n = if 0 < keyBytes n then 16 else bits n / 8 := by unfold size keyBytes bits; (repeat' split) <;> first | rfl | omega
  have hb : 0 ≤ bits n ∧ bits n ≤ 512 := by unfold bits; (repeat' split) <;> omega
  have H := Lib.hid hs
  clear hs
  go_enter Try.func13, Try.ntmps13
  go_wp2_with (first | (go_at_call 41; refine (keyBytes_any _ _).mono ?_; rintro e w' ⟨rfl, rfl⟩) | (go_at_call 42; refine (bits_any _ _).mono ?_; rintro e w' ⟨rfl, rfl⟩))
  · go_ret; exact ⟨by rw [H.out, if_pos (by assumption)]; rfl, rfl⟩
  · go_ret; exact ⟨by rw [H.out, if_neg (by omega)]; rfl, rfl⟩
theorem rsize_any (n : Int) (w : World) : Calls Try.prog 14 #[.int .i64 n] w fun e w' => e = .returned (.int .i64 (size n)) ∧ w = w' := by
  go_enter Try.func14, Try.ntmps14
  go_wp2
  all_goals (go_ret; refine ⟨?_, rfl⟩; unfold size; simp_all; try ((repeat' split) <;> omega))
theorem real_any (w : World) : Calls Try.prog 15 #[] w fun e w' => e = .returned (.pointer (some ⟨w.heap.size, 0, none⟩)) ∧ w.alloc (.cells #[.iface 81 (.agg #[])] 85) = w' := by
  go_enter Try.func15, Try.ntmps15
  go_wp2
  go_ret
  exact ⟨rfl, rfl⟩
theorem ideal_any (w : World) : Calls Try.prog 40 #[] w fun e w' => e = .returned (.pointer (some ⟨w.heap.size + 1, 0, none⟩)) ∧ (w.alloc (.cells #[.slice none 0 0] 113)).alloc (.cells #[.iface 110 (.pointer (some ⟨w.heap.size, 0, none⟩))] 85) = w' := by
  go_enter Try.func40, Try.ntmps40
  go_wp2
  go_ret
  exact ⟨rfl, rfl⟩
theorem rentries_any (w : World) : Calls Try.prog 110 #[.agg #[]] w fun e w' => e = .returned (.int .i64 0) ∧ Below w.heap.size w w' := by
  go_enter Try.func110, Try.ntmps110
  go_wp2
  go_ret
  exact ⟨rfl, (Below.refl _ _).alloc (Nat.le_refl _) _⟩
theorem len_real (a : Addr) (w : World) (h : w.cell? a = some (.iface 81 (.agg #[]))): Calls Try.prog 16 #[.pointer (some a)] w fun e w' => e = .returned (.int .i64 0) ∧ Below w.heap.size w w' := by
  have h1 := nil_ahead_real
  have h2 := method_real
  go_enter Try.func16, Try.ntmps16
  go_wp2_with (go_at_call 110; refine (rentries_any _).mono ?_; rintro e w' ⟨rfl, hb⟩)
  go_ret
  exact ⟨rfl, hb⟩
theorem len_ideal (a b : Addr) (l c : Nat) (p : Option Addr) (w : World) (h : w.cell? a = some (.iface 110 (.pointer (some b)))) (h' : w.cell? b = some (.slice p l c)) : Calls Try.prog 16 #[.pointer (some a)] w fun e w' => e = .returned (.int .i64 l) ∧ w = w' := by
  have h1 := nil_ahead_ideal
  have h2 := method_ideal
  go_enter Try.func16, Try.ntmps16
  go_wp2_with fail
  go_enter Try.func111, Try.ntmps111
  go_wp2
  go_ret
  exact ⟨rfl, rfl⟩
theorem awake_any (w : World) : Calls Try.prog 12 #[] w fun e w' => e = .returned (.bool true) ∧ Below w.heap.size w w' := by
  have h6 : size 6 = 48 := by decide
  go_enter Try.func12, Try.ntmps12
  go_wp2_with fail
  refine (ideal_any _).mono ?_; rintro e w1 ⟨rfl, rfl⟩
  go_wp2_with fail
  refine (real_any _).mono ?_; rintro e w1 ⟨rfl, rfl⟩
  go_wp2_with fail
  refine (size_any _ _).mono ?_; rintro e w1 ⟨rfl, rfl⟩
  go_wp2_with fail
  refine (len_ideal _ ⟨w.heap.size, 0, none⟩ 0 0 none _ (by go_simp) (by go_simp)).mono ?_; rintro e w1 ⟨rfl, rfl⟩
  go_wp2
  go_ret
  exact ⟨rfl, (((Below.refl _ _).alloc (by simp) _).alloc (by simp) _).alloc (by simp; omega) _⟩
theorem law_any (n : Int) (w : World) : Calls Try.prog 3 #[.int .i64 n] w fun e w' => e = .returned (.bool true) ∧ Below w.heap.size w w' := by
  go_enter Try.func3, Try.ntmps3
  go_wp2_with fail
  refine (awake_any _).mono ?_; rintro e w1 ⟨rfl, hb⟩
  go_wp2_with fail
  refine (size_any _ _).mono ?_; rintro e w2 ⟨rfl, rfl⟩
  go_wp2_with fail
  refine (rsize_any _ _).mono ?_; rintro e w2 ⟨rfl, rfl⟩
  go_wp2_with fail
  refine (real_any _).mono ?_; rintro e w2 ⟨rfl, rfl⟩
  go_wp2_with fail
  refine (len_real _ _ (by go_simp)).mono ?_; rintro e w2 ⟨rfl, hb2⟩
  go_wp2
  go_ret
  exact ⟨rfl, hb.trans (((Below.refl w.heap.size w1).alloc hb.size _).trans (hb2.mono (by have := hb.size; simp; omega)))⟩

set_option maxRecDepth 100000 in
theorem walk (W : World) (base : Nat) (args : Array Value) {H : Type} {enc : TypeId × Value → H} (ds : List (DataW H)) (ps : List MemPlace)
    (hval : ∀ (j : Nat) t v, Try.f3.params[j]? = some t → args[j]? = some v → Value.okWide Try.prog W .any base t v)
    (hA : DataW.TrodAll enc Try.prog W 0 (fun _ => true) true Try.f3.params.toList args.toList ds ps) :
    Calls Try.prog 3 args W fun e W' => e = .returned (.bool true) ∧ Below W.heap.size W W' := by
  rw [Try.params3] at hA hval
  obtain ⟨v0, d0, rfl, rfl, h0⟩ := trodAll_one hA
  obtain ⟨x, rfl, rfl, rfl, wx⟩ := open_int Try.underlying3 (hval 0 3 v0 rfl rfl) h0
  exact law_any x W

set_option maxRecDepth 100000 in
theorem lifted (os : Os) (started : os.Started) (H : Type) (enc : TypeId × Value → H) :
    ReturnsInHanded {} Try.checked os 3 .any (Rows.engineSizesSpec.pre6 enc Try.prog Try.f3 Rows.engineSizesRow.domain false) (Rows.engineSizesSpec.post enc Try.prog Try.f3 false true false false) :=
  law_lift (C := Try.checked) (tb := 4) (by kernel_rfl) started (by kernel_rfl) Try.func3
    (ChangeSpec.witness6 (enc := enc) (C := Try.checked) false ⟨#[], #[.int .i64 0], []⟩ 8 (by kernel_rfl) (by kernel_rfl) (by kernel_rfl) (by kernel_rfl))
    (by kernel_rfl) (by kernel_rfl) rfl (by kernel_rfl) Try.underlying4 (fun ds h => by match ds, h with | [_], _ => exact ⟨rfl, rfl, rfl⟩)
    (fun W base args ds ps hval hA _ => walk W base args ds ps hval hA)

theorem over : Rows.engineSizesRow.holds Try.pinned (OpenSpec.ofChange Rows.engineSizesSpec) :=
  OpenClaim.holds_of_wide 3 Try.f3 rfl rfl rfl rfl rfl rfl rfl ⟨rfl, rfl, rfl, rfl, rfl⟩ rfl rfl rfl rfl rfl (by kernel_rfl) Try.func3 (by kernel_rfl)
    (of_decide_eq_true (by kernel_rfl)) (by unfold Func.isWrapper; rw [if_neg (of_decide_eq_false (by kernel_rfl))]; exact ⟨rfl, rfl⟩)
    (fun os started H enc _ => lifted os started H enc)

theorem proved : Rows.EngineSizesSaid := over
#print axioms proved
end Go.Proofs.Ythoickghfjgmmaa.EngineSizes
