/-
  SHA-2: the walk of Sum; what the laws of sha ask first.
  Conditions: the package's numbers lie in memory.
-/
import Derived.Test.YtlbpodddokhmaaaGreatShaM32
import Derived.Test.YtlbpodddokhmaaaGreatShaM64
namespace Go.Proofs.YtlbpodddokhmaaaGreat.Sha
open Go.ChangeShapes Go.WideShapes Go.ChangeAt Go.RowKit Go.Deep
theorem ok256 : Sha32.SizeOk 256 := ⟨rfl, .inl rfl⟩
theorem ok384 : Sha64.SizeOk 384 := ⟨rfl, .inr (.inl rfl)⟩
theorem ok512 : Sha64.SizeOk 512 := ⟨rfl, .inr (.inr rfl)⟩
theorem Sum_256 [Inhabited Go.Proofs.YtlbpodddokhmaaaGreat.Sha.Tabs] (b : List UInt8) (w : World) (hg : GlobAt w) (hb : b.length ≤ 1000000) : Calls Tryz.prog 88 #[.int .i64 256, .string (B b)] w fun e w' => e = .returned (.string (B (Sha32.sumB 256 0 b))) ∧ Below w.heap.size w w' := by
  have HS := Lib.hid (show ∀ W, GlobAt W → Calls Tryz.prog 99 #[.int .i64 256, .string (B b)] W fun e w' => e = .returned (.string (B (Sha32.sumB 256 0 b))) ∧ Below W.heap.size W w' from fun W h => Sha32.sum_any 256 0 b W h ok256 (.inr ⟨rfl, rfl⟩) hb)
  have HG := Lib.hid hg
  clear hg
  generalize Sha32.sumB 256 0 b = r at *
  go_enter Tryz.func88, Tryz.ntmps88
  go_wp2_with fail
  refine Calls.ext (HS.out _ HG.out) fun u => ?_
  go_wp2
  go_ret
  exact ⟨rfl, by ((repeat' (with_reducible first | exact Below.refl _ _ | assumption | refine Below.drew ?_ | refine below_drewN ?_ _ | refine Below.setCell ?_ ?_ _ | refine Below.alloc ?_ ?_ _ | refine Below.ext ?_ ?_ _ | refine Below.trans ?_ (Below.mono ‹_› ?_))) <;> first | omega | (simp; done) | (simp; omega))⟩
theorem Sum_384 [Inhabited Go.Proofs.YtlbpodddokhmaaaGreat.Sha.Tabs] (b : List UInt8) (w : World) (hg : GlobAt w) (hb : b.length ≤ 1000000) : Calls Tryz.prog 88 #[.int .i64 384, .string (B b)] w fun e w' => e = .returned (.string (B (Sha64.sumB 384 1 b))) ∧ Below w.heap.size w w' := by
  have HS := Lib.hid (show ∀ W, GlobAt W → Calls Tryz.prog 100 #[.int .i64 384, .string (B b)] W fun e w' => e = .returned (.string (B (Sha64.sumB 384 1 b))) ∧ Below W.heap.size W w' from fun W h => Sha64.sum_any 384 1 b W h ok384 (.inl ⟨rfl, rfl⟩) hb)
  have HG := Lib.hid hg
  clear hg
  generalize Sha64.sumB 384 1 b = r at *
  go_enter Tryz.func88, Tryz.ntmps88
  go_wp2_with fail
  refine Calls.ext (HS.out _ HG.out) fun u => ?_
  go_wp2
  go_ret
  exact ⟨rfl, by ((repeat' (with_reducible first | exact Below.refl _ _ | assumption | refine Below.drew ?_ | refine below_drewN ?_ _ | refine Below.setCell ?_ ?_ _ | refine Below.alloc ?_ ?_ _ | refine Below.ext ?_ ?_ _ | refine Below.trans ?_ (Below.mono ‹_› ?_))) <;> first | omega | (simp; done) | (simp; omega))⟩
theorem Sum_512 [Inhabited Go.Proofs.YtlbpodddokhmaaaGreat.Sha.Tabs] (b : List UInt8) (w : World) (hg : GlobAt w) (hb : b.length ≤ 1000000) : Calls Tryz.prog 88 #[.int .i64 512, .string (B b)] w fun e w' => e = .returned (.string (B (Sha64.sumB 512 0 b))) ∧ Below w.heap.size w w' := by
  have HS := Lib.hid (show ∀ W, GlobAt W → Calls Tryz.prog 100 #[.int .i64 512, .string (B b)] W fun e w' => e = .returned (.string (B (Sha64.sumB 512 0 b))) ∧ Below W.heap.size W w' from fun W h => Sha64.sum_any 512 0 b W h ok512 (.inr ⟨rfl, rfl⟩) hb)
  have HG := Lib.hid hg
  clear hg
  generalize Sha64.sumB 512 0 b = r at *
  go_enter Tryz.func88, Tryz.ntmps88
  go_wp2_with fail
  refine Calls.ext (HS.out _ HG.out) fun u => ?_
  go_wp2
  go_ret
  exact ⟨rfl, by ((repeat' (with_reducible first | exact Below.refl _ _ | assumption | refine Below.drew ?_ | refine below_drewN ?_ _ | refine Below.setCell ?_ ?_ _ | refine Below.alloc ?_ ?_ _ | refine Below.ext ?_ ?_ _ | refine Below.trans ?_ (Below.mono ‹_› ?_))) <;> first | omega | (simp; done) | (simp; omega))⟩
/-- Other sizes. -/
def Other (x : Int) : Prop := (x == 256) = false ∧ (x == 384) = false ∧ (x == 512) = false
theorem Sum_none (x : Int) (b : List UInt8) (w : World) (h : Other x) : Calls Tryz.prog 88 #[.int .i64 x, .string (B b)] w fun e w' => e = .returned (.string (B [])) ∧ w = w' := by
  obtain ⟨h1, h2, h3⟩ := h
  go_enter Tryz.func88, Tryz.ntmps88
  go_wp2
  go_ret
  exact ⟨rfl, rfl⟩
theorem Block_none (x : Int) (w : World) (h : Other x) : Calls Tryz.prog 86 #[.int .i64 x] w fun e w' => e = .returned (.int .i64 0) ∧ w = w' := by
  obtain ⟨h1, h2, h3⟩ := h
  go_enter Tryz.func86, Tryz.ntmps86
  go_wp2
  go_ret
  exact ⟨rfl, rfl⟩
theorem Size_none (x : Int) (w : World) (h : Other x) : Calls Tryz.prog 125 #[.int .i64 x] w fun e w' => e = .returned (.int .i64 0) ∧ w = w' := by
  have HB := Lib.hid fun W => Block_none x W h
  clear h
  go_enter Tryz.func125, Tryz.ntmps125
  go_wp2_with fail
  refine Calls.mono (HB.out _) ?_
  rintro _ _ ⟨rfl, rfl⟩
  go_wp2
  go_ret
  exact ⟨rfl, rfl⟩
end Go.Proofs.YtlbpodddokhmaaaGreat.Sha
