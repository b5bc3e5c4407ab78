/-
  GcmField and GcmTimes: what the law asks first.
  Conditions: none.
-/
import Derived.Test.YtnnoimikoddbcaaGf11
namespace Go.Proofs.Ytnnoimikoddbcaa.Gf
open Go.ChangeShapes Go.WideShapes Go.ChangeAt Go.RowKit Go.Deep
open Go.Proofs.Ytnnoimikoddbcaa.Field (X mul one R)
/-- The block of x^0. -/
def oneL : List UInt8 := [128, 0, 0, 0, 0, 0, 0, 0, 0, 0, 0, 0, 0, 0, 0, 0]
theorem rd_one : rd oneL = one := by decide
theorem WR_one : WR one = oneL := by rw [← rd_one]; exact WR_rd _ rfl
theorem awake_any (w : World) : Calls Try.prog 10 #[] w fun e w' => e = .returned (.bool true) ∧ Below w.heap.size w w' := by
  have hs := Seal_any [48, 49, 50, 51, 52, 53, 54, 55, 56, 57, 97, 98, 99, 100, 101, 102] [48, 49, 50, 51, 52, 53, 54, 55, 56, 57, 97, 98] [] [] w (by decide) (by simp) (by simp)
  have ht := fun W => Times_any oneL oneL W rfl rfl
  have hone : WR (mul (rd oneL) (rd oneL)) = oneL := by rw [rd_one, Field.mul_one (by decide), WR_one]
  rw [hone] at ht
  have htl := tagB_length [48, 49, 50, 51, 52, 53, 54, 55, 56, 57, 97, 98, 99, 100, 101, 102] (firstB [48, 49, 50, 51, 52, 53, 54, 55, 56, 57, 97, 98, 99, 100, 101, 102] [48, 49, 50, 51, 52, 53, 54, 55, 56, 57, 97, 98]) [] (sealB [48, 49, 50, 51, 52, 53, 54, 55, 56, 57, 97, 98, 99, 100, 101, 102] [48, 49, 50, 51, 52, 53, 54, 55, 56, 57, 97, 98] [])
  generalize tagB _ _ _ _ = tg at *
  generalize sealB _ _ _ = sl at *
  have HS := Lib.hid hs
  have HT := Lib.hid ht
  clear hs ht hone
  go_enter Try.func10, Try.ntmps10
  go_wp2_with fail
  refine Calls.ext HS.out fun u1 => ?_
  go_wp2_with fail
  refine Calls.ext (HT.out _) fun u2 => ?_
  go_wp2
  go_ret
  exact ⟨rfl, by ((repeat' (with_reducible first | exact Below.refl _ _ | assumption | refine Below.drew ?_ | refine below_drewN ?_ _ | refine Below.setCell ?_ ?_ _ | refine Below.alloc ?_ ?_ _ | refine Below.ext ?_ ?_ _ | refine Below.trans ?_ (Below.mono ‹_› ?_))) <;> first | omega | (simp; done) | (simp; omega))⟩
end Go.Proofs.Ytnnoimikoddbcaa.Gf
