/-
  The walks of eid, third part: Match, and the check that its laws begin with.
  Conditions: a string is no longer than the model lets it be.
-/
import Derived.Test.YtlbpodddokhmaaaDoorEid2
namespace Go.Proofs.YtlbpodddokhmaaaDoor.Eid
open Go.ChangeShapes Go.WideShapes Go.ChangeAt Go.RowKit

theorem awake_any (w : World) : Calls Tryd.prog 5 #[] w fun e w' => e = .returned (.bool true) ∧ Below w.heap.size w w' := by
  have hr : rightB 1 [110, 111, 110, 101] 0 0 = true := by decide
  go_enter Tryd.func5, Tryd.ntmps5
  go_wp2_with fail
  refine (None_any _).mono ?_; rintro e w1 ⟨rfl, hb⟩; (have hb_s := bs hb (b := w.heap.size) (by first | omega | (simp <;> omega)))
  go_wp2_with fail
  refine (None_any _).mono ?_; rintro e w2 ⟨rfl, hb2⟩; (have hb2_s := bs hb2 (b := w.heap.size) (by first | omega | (simp <;> omega)))
  go_wp2_with fail
  refine (Right_any _ _ _ _ _ (by decide)).mono ?_; rintro e w3 ⟨rfl, hb3⟩; (have hb3_s := bs hb3 (b := w.heap.size) (by first | omega | (simp <;> omega)))
  rw [hr]
  go_wp2
  go_ret
  exact ⟨rfl, by ((repeat' (with_reducible first | exact Below.refl _ _ | assumption | refine Below.drew ?_ | refine below_drewN ?_ _ | refine Below.setCell ?_ ?_ _ | refine Below.alloc ?_ ?_ _ | refine Below.ext ?_ ?_ _ | refine Below.trans ?_ (Below.mono ‹_› ?_))) <;> first | omega | (simp; done) | (simp; omega))⟩
end Go.Proofs.YtlbpodddokhmaaaDoor.Eid
