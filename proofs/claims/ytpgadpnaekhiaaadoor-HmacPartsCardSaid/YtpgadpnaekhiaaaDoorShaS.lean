/-
  SHA-2: the walk of Sum; what the laws of sha ask first.
  Conditions: the package's numbers lie in memory.
-/
import Derived.Test.YtpgadpnaekhiaaaDoorShaF32
import Derived.Test.YtpgadpnaekhiaaaDoorShaF64
import Derived.Test.YtpgadpnaekhiaaaDoorFrameD
import Derived.Test.YtpgadpnaekhiaaaDoorRoot3
namespace Go.Proofs.YtpgadpnaekhiaaaDoor.Sha
open Go.ChangeShapes Go.WideShapes Go.ChangeAt Go.RowKit Go.Deep
theorem ok256 : Sha32.SizeOk 256 := ⟨rfl, .inl rfl⟩
theorem ok384 : Sha64.SizeOk 384 := ⟨rfl, .inr (.inl rfl)⟩
theorem ok512 : Sha64.SizeOk 512 := ⟨rfl, .inr (.inr rfl)⟩
theorem Sum_256 (b : List UInt8) (w : World) (hg : GlobAt w) (hb : b.length ≤ 1000000) : Calls Tryd.prog 19 #[.int .i64 256, .string (B b)] w fun e w' => e = .returned (.string (B (Sha32.sumB 256 0 b))) ∧ Below w.heap.size w w' := by
  have HS := Lib.hid (show ∀ W, GlobAt W → Calls Tryd.prog 29 #[.int .i64 256, .string (B b)] W fun e w' => e = .returned (.string (B (Sha32.sumB 256 0 b))) ∧ Below W.heap.size W w' from fun W h => Sha32.sum_any 256 0 b W h ok256 (.inr ⟨rfl, rfl⟩) hb)
  have HG := Lib.hid hg
  clear hg
  generalize Sha32.sumB 256 0 b = r at *
  go_enter Tryd.func19, Tryd.ntmps19
  go_wp2_with fail
  refine Calls.ext (HS.out _ HG.out) fun u => ?_
  go_wp2
  go_ret
  exact ⟨rfl, by ((repeat' (with_reducible first | exact Below.refl _ _ | assumption | refine Below.drew ?_ | refine below_drewN ?_ _ | refine Below.setCell ?_ ?_ _ | refine Below.alloc ?_ ?_ _ | refine Below.ext ?_ ?_ _ | refine Below.trans ?_ (Below.mono ‹_› ?_))) <;> first | omega | (simp; done) | (simp; omega))⟩
theorem Sum_384 (b : List UInt8) (w : World) (hg : GlobAt w) (hb : b.length ≤ 1000000) : Calls Tryd.prog 19 #[.int .i64 384, .string (B b)] w fun e w' => e = .returned (.string (B (Sha64.sumB 384 1 b))) ∧ Below w.heap.size w w' := by
  have HS := Lib.hid (show ∀ W, GlobAt W → Calls Tryd.prog 30 #[.int .i64 384, .string (B b)] W fun e w' => e = .returned (.string (B (Sha64.sumB 384 1 b))) ∧ Below W.heap.size W w' from fun W h => Sha64.sum_any 384 1 b W h ok384 (.inl ⟨rfl, rfl⟩) hb)
  have HG := Lib.hid hg
  clear hg
  generalize Sha64.sumB 384 1 b = r at *
  go_enter Tryd.func19, Tryd.ntmps19
  go_wp2_with fail
  refine Calls.ext (HS.out _ HG.out) fun u => ?_
  go_wp2
  go_ret
  exact ⟨rfl, by ((repeat' (with_reducible first | exact Below.refl _ _ | assumption | refine Below.drew ?_ | refine below_drewN ?_ _ | refine Below.setCell ?_ ?_ _ | refine Below.alloc ?_ ?_ _ | refine Below.ext ?_ ?_ _ | refine Below.trans ?_ (Below.mono ‹_› ?_))) <;> first | omega | (simp; done) | (simp; omega))⟩
theorem Sum_512 (b : List UInt8) (w : World) (hg : GlobAt w) (hb : b.length ≤ 1000000) : Calls Tryd.prog 19 #[.int .i64 512, .string (B b)] w fun e w' => e = .returned (.string (B (Sha64.sumB 512 0 b))) ∧ Below w.heap.size w w' := by
  have HS := Lib.hid (show ∀ W, GlobAt W → Calls Tryd.prog 30 #[.int .i64 512, .string (B b)] W fun e w' => e = .returned (.string (B (Sha64.sumB 512 0 b))) ∧ Below W.heap.size W w' from fun W h => Sha64.sum_any 512 0 b W h ok512 (.inr ⟨rfl, rfl⟩) hb)
  have HG := Lib.hid hg
  clear hg
  generalize Sha64.sumB 512 0 b = r at *
  go_enter Tryd.func19, Tryd.ntmps19
  go_wp2_with fail
  refine Calls.ext (HS.out _ HG.out) fun u => ?_
  go_wp2
  go_ret
  exact ⟨rfl, by ((repeat' (with_reducible first | exact Below.refl _ _ | assumption | refine Below.drew ?_ | refine below_drewN ?_ _ | refine Below.setCell ?_ ?_ _ | refine Below.alloc ?_ ?_ _ | refine Below.ext ?_ ?_ _ | refine Below.trans ?_ (Below.mono ‹_› ?_))) <;> first | omega | (simp; done) | (simp; omega))⟩
/-- Other sizes. -/
def Other (x : Int) : Prop := (x == 256) = false ∧ (x == 384) = false ∧ (x == 512) = false
theorem Sum_none (x : Int) (b : List UInt8) (w : World) (h : Other x) : Calls Tryd.prog 19 #[.int .i64 x, .string (B b)] w fun e w' => e = .returned (.string (B [])) ∧ w = w' := by
  obtain ⟨h1, h2, h3⟩ := h
  go_enter Tryd.func19, Tryd.ntmps19
  go_wp2
  go_ret
  exact ⟨rfl, rfl⟩
theorem Block_none (x : Int) (w : World) (h : Other x) : Calls Tryd.prog 20 #[.int .i64 x] w fun e w' => e = .returned (.int .i64 0) ∧ w = w' := by
  obtain ⟨h1, h2, h3⟩ := h
  go_enter Tryd.func20, Tryd.ntmps20
  go_wp2
  go_ret
  exact ⟨rfl, rfl⟩
theorem Size_none (x : Int) (w : World) (h : Other x) : Calls Tryd.prog 21 #[.int .i64 x] w fun e w' => e = .returned (.int .i64 0) ∧ w = w' := by
  have HB := Lib.hid fun W => Block_none x W h
  clear h
  go_enter Tryd.func21, Tryd.ntmps21
  go_wp2_with fail
  refine Calls.mono (HB.out _) ?_
  rintro _ _ ⟨rfl, rfl⟩
  go_wp2
  go_ret
  exact ⟨rfl, rfl⟩
theorem root2 : Root.loW (Root.most (Root.under 2 true) 69 0) = 4794697086780616226 := by decide +kernel
theorem awake_any (w : World) : Calls Tryd.prog 18 #[] w fun e w' => e = .returned (.bool true) ∧ Below w.heap.size w w' := by
  have hR := fun W0 => Root.Root_any 2 true W0 (by decide) (by omega) (by omega)
  rw [root2] at hR
  have HS := Lib.hid (show ∀ W, Calls Tryd.prog 21 #[.int .i64 384] W fun e w' => e = .returned (.int .i64 48) ∧ W = w' from fun W => Sha64.Size_any 384 W ok384)
  go_enter Tryd.func18, Tryd.ntmps18
  go_wp2_with fail
  refine (HS.out _).mono ?_
  rintro e w1 ⟨rfl, rfl⟩
  go_wp2_with fail
  refine (hR _).mono ?_
  rintro e w1 ⟨rfl, hb⟩
  go_wp2
  go_ret
  exact ⟨rfl, hb⟩
end Go.Proofs.YtpgadpnaekhiaaaDoor.Sha
