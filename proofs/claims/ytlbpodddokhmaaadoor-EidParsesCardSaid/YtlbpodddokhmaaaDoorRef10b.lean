/-
  The walks of the reference for names, second part: Right whole, Node, and Match where it is plain.
  Conditions: a string is no longer than the model lets it be.
-/
import Derived.Test.YtlbpodddokhmaaaDoorRef10
import Derived.Test.YtlbpodddokhmaaaDoorExt
import Derived.StillTailTactics
import Derived.Deep.QuietTactic
import Derived.BigQuiet
import Derived.IntWalk
import Derived.Deep.RegionHeld3
namespace Go.Proofs.YtlbpodddokhmaaaDoor.Eid
open Go.ChangeShapes Go.WideShapes Go.ChangeAt Go.RowKit
theorem rRight_any (s : Int) (l : List UInt8) (n v : Int) (w : World) : Calls Tryd.prog 8 #[.agg #[.int .i64 s, .string (B l), .int .u64 n, .int .u64 v]] w fun e w' => e = .returned (.bool (rightB s l n v)) ∧ Below w.heap.size w w' := by
  by_cases h1 : s = 1
  · subst h1
    by_cases h : n = 0 ∧ v = 0 ∧ l.length ≤ 60
    · obtain ⟨rfl, rfl, h60⟩ := h
      have e : rightB 1 l 0 0 = refNamed l := by rw [refNamed_eq l h60]; simp [rightB]
      rw [e]
      cases hne : (l == [110, 111, 110, 101])
      · exact rRight_1 l w h60 hne
      · rw [show refNamed l = true by unfold refNamed; rw [hne]; rfl]
        rw [beq_iff_eq] at hne
        subst hne
        exact rRight_none w
    · rw [show rightB 1 l n v = false by
        by_cases hnv : n = 0 ∧ v = 0
        · simp [rightB, namedB_long l (by omega)]
        · simp [rightB, hnv]]
      exact rRight_nv l n v w h
  · by_cases h2 : s = 2
    · subst h2
      exact rRight_2 l n v w
    · rw [show rightB s l n v = false by simp [rightB, h1, h2]]
      exact rRight_not s l n v w (by simp [h1]) (by simp [h2])
end Go.Proofs.YtlbpodddokhmaaaDoor.Eid
