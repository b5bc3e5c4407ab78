/-
  The walks of eid, second part: Right, None, Node: each returns what a plain function of the parts of a name says.
  Conditions: a string is no longer than the model lets it be.
-/
import Derived.Test.YtlbpodddokhmaaaDoorEid
namespace Go.Proofs.YtlbpodddokhmaaaDoor.Eid
open Go.ChangeShapes Go.WideShapes Go.ChangeAt Go.RowKit

/-- 'Right' of a name's parts. -/
def rightB (s : Int) (l : List UInt8) (n v : Int) : Bool :=
  if s = 1 then decide (n = 0 ∧ v = 0) && namedB l else if s = 2 then decide (l = [] ∧ n ≤ 4294967295 ∧ v ≤ 4294967295) else false
theorem Right_any (s : Int) (l : List UInt8) (n v : Int) (w : World) (hl : l.length ≤ maxLen) : Calls Tryd.prog 13 #[.agg #[.int .i64 s, .string (B l), .int .u64 n, .int .u64 v]] w fun e w' => e = .returned (.bool (rightB s l n v)) ∧ Below w.heap.size w w' := by
  go_enter Tryd.func13, Tryd.ntmps13
  by_cases h1 : s = 1
  · subst h1
    have e : rightB 1 l n v = (decide (n = 0 ∧ v = 0) && namedB l) := rfl
    have HE := Lib.hid e
    clear e
    cases hn : (n == 0)
    · go_wp2
      go_ret
      exact ⟨by rw [HE.out]; rw [beq_eq_false_iff_ne] at hn; simp [hn], (Below.refl _ _).alloc (Nat.le_refl _) _⟩
    · cases hv : (v == 0)
      · go_wp2
        go_ret
        exact ⟨by rw [HE.out]; rw [beq_eq_false_iff_ne] at hv; simp [hv], (Below.refl _ _).alloc (Nat.le_refl _) _⟩
      · go_wp2_with (go_at_call 26; refine (named_any _ _ hl).mono ?_; rintro e w1 ⟨rfl, hb⟩)
        go_ret
        exact ⟨by rw [HE.out]; rw [beq_iff_eq] at hn hv; simp [hn, hv], ((Below.refl _ _).alloc (Nat.le_refl _) _).trans (hb.mono (by simp))⟩
  · by_cases h2 : s = 2
    · subst h2
      go_wp2
      all_goals
        go_ret
        exact ⟨ret_bool (by simp [rightB, *]; try omega), (Below.refl _ _).alloc (Nat.le_refl _) _⟩
    · go_wp2
      go_ret
      exact ⟨by unfold rightB; rw [if_neg h1, if_neg h2]; rfl, (Below.refl _ _).alloc (Nat.le_refl _) _⟩
theorem None_any (w : World) : Calls Tryd.prog 12 #[] w fun e w' => e = .returned (.agg #[.int .i64 1, .string (B [110, 111, 110, 101]), .int .u64 0, .int .u64 0]) ∧ Below w.heap.size w w' := by
  go_enter Tryd.func12, Tryd.ntmps12
  go_wp2
  exact bodyPost_ret (v := .agg #[.int .i64 1, .string (B [110, 111, 110, 101]), .int .u64 0, .int .u64 0]) (by simp [results, Tryd.results12, go_sem]; rfl) rfl ⟨rfl, by ((repeat' (with_reducible first | exact Below.refl _ _ | assumption | refine Below.drew ?_ | refine below_drewN ?_ _ | refine Below.setCell ?_ ?_ _ | refine Below.alloc ?_ ?_ _ | refine Below.ext ?_ ?_ _ | refine Below.trans ?_ (Below.mono ‹_› ?_))) <;> first | omega | (simp; done) | (simp; omega))⟩
end Go.Proofs.YtlbpodddokhmaaaDoor.Eid
