/-
  The walks of eid, second part: Right, None, Node: each returns what a plain function of the parts of a name says.
  Conditions: a string is no longer than the model lets it be.
-/
import Derived.Test.YthoickghfjgmmaaEid
namespace Go.Proofs.Ythoickghfjgmmaa.Eid
open Go.ChangeShapes Go.WideShapes Go.ChangeAt Go.RowKit

/-- 'Right' of a name's parts. -/
def rightB (s : Int) (l : List UInt8) (n v : Int) : Bool :=
  if s = 1 then decide (n = 0 ∧ v = 0) && namedB l else if s = 2 then decide (l = [] ∧ n ≤ 4294967295 ∧ v ≤ 4294967295) else false
theorem Right_any (s : Int) (l : List UInt8) (n v : Int) (w : World) (hl : l.length ≤ maxLen) : Calls Try.prog 45 #[.agg #[.int .i64 s, .string (B l), .int .u64 n, .int .u64 v]] w fun e w' => e = .returned (.bool (rightB s l n v)) ∧ Below w.heap.size w w' := by
  go_enter Try.func45, Try.ntmps45
  by_cases h1 : s = 1
  · subst h1
    have e : rightB 1 l n v = (decide (n = 0 ∧ v = 0) && namedB l) := rfl
    have HE := Lib.hid e
    clear e
    cases hn : (n == 0)
    · go_wp2
      go_ret
      exact ⟨by rw [HE.out]; rw [beq_eq_false_iff_ne] at hn; simp [hn], (Below.refl _ _).alloc (Nat.le_refl _) _⟩
    · cases hv : (v == 0)
      · go_wp2
        go_ret
        exact ⟨by rw [HE.out]; rw [beq_eq_false_iff_ne] at hv; simp [hv], (Below.refl _ _).alloc (Nat.le_refl _) _⟩
      · go_wp2_with (go_at_call 70; refine (named_any _ _ hl).mono ?_; rintro e w1 ⟨rfl, hb⟩)
        go_ret
        exact ⟨by rw [HE.out]; rw [beq_iff_eq] at hn hv; simp [hn, hv], ((Below.refl _ _).alloc (Nat.le_refl _) _).trans (hb.mono (by simp))⟩
  · by_cases h2 : s = 2
    · subst h2
      go_wp2
      all_goals
        go_ret
        exact ⟨ret_bool (by simp [rightB, *]; try omega), (Below.refl _ _).alloc (Nat.le_refl _) _⟩
    · go_wp2
      go_ret
      exact ⟨by unfold rightB; rw [if_neg h1, if_neg h2]; rfl, (Below.refl _ _).alloc (Nat.le_refl _) _⟩
theorem None_any (w : World) : Calls Try.prog 44 #[] w fun e w' => e = .returned (.agg #[.int .i64 1, .string (B [110, 111, 110, 101]), .int .u64 0, .int .u64 0]) ∧ Below w.heap.size w w' := by
  go_enter Try.func44, Try.ntmps44
  go_wp2
  exact bodyPost_ret (v := .agg #[.int .i64 1, .string (B [110, 111, 110, 101]), .int .u64 0, .int .u64 0]) (by simp [results, Try.results44, go_sem]; rfl) rfl ⟨rfl, by ((repeat' (with_reducible first | exact Below.refl _ _ | assumption | refine Below.drew ?_ | refine below_drewN ?_ _ | refine Below.setCell ?_ ?_ _ | refine Below.alloc ?_ ?_ _ | refine Below.ext ?_ ?_ _ | refine Below.trans ?_ (Below.mono ‹_› ?_))) <;> first | omega | (simp; done) | (simp; omega))⟩
/-- The Name of a name's node. -/
def nodeName (l : List UInt8) : List UInt8 := l.take (if nodeN l = 0 then l.length else nodeN l)
theorem Node_no (s : Int) (l : List UInt8) (n v : Int) (w : World) (hl : l.length ≤ maxLen) (h : rightB s l n v = false) : Calls Try.prog 19 #[.agg #[.int .i64 s, .string (B l), .int .u64 n, .int .u64 v]] w fun e w' => e = .returned (.tuple #[.agg #[.int .i64 0, .string (B []), .int .u64 0, .int .u64 0], .int .i64 1]) ∧ Below w.heap.size w w' := by
  have H := Lib.hid h
  clear h
  go_enter Try.func19, Try.ntmps19
  go_wp2_with (go_at_call 45; refine (Right_any _ _ _ _ _ hl).mono ?_; rw [H.out]; rintro e w1 ⟨rfl, hb⟩; obtain ⟨hc0, hf0⟩ := bat hb w.heap.size (by simp; omega); obtain ⟨hc1, hf1⟩ := bat hb (w.heap.size + 1) (by simp); have hz := hb.size; simp at hz)
  exact bodyPost_ret (v := .tuple #[.agg #[.int .i64 0, .string (B []), .int .u64 0, .int .u64 0], .int .i64 1]) (by simp [results, Try.results19, go_sem, hc0, hf0, hc1, hf1, hz]; rfl) rfl ⟨rfl, by ((repeat' (with_reducible first | exact Below.refl _ _ | assumption | refine Below.drew ?_ | refine below_drewN ?_ _ | refine Below.setCell ?_ ?_ _ | refine Below.alloc ?_ ?_ _ | refine Below.ext ?_ ?_ _ | refine Below.trans ?_ (Below.mono ‹_› ?_))) <;> first | omega | (simp; done) | (simp; omega))⟩
theorem Node_yes (s : Int) (l : List UInt8) (n v : Int) (w : World) (hl : l.length ≤ maxLen) (h : rightB s l n v = true) : Calls Try.prog 19 #[.agg #[.int .i64 s, .string (B l), .int .u64 n, .int .u64 v]] w fun e w' => e = .returned (.tuple #[.agg #[.int .i64 s, .string (B (nodeName l)), .int .u64 n, .int .u64 0], .int .i64 0]) ∧ Below w.heap.size w w' := by
  have H := Lib.hid h
  clear h
  go_enter Try.func19, Try.ntmps19
  go_wp2_with (go_at_call 45; refine (Right_any _ _ _ _ _ hl).mono ?_; rw [H.out]; rintro e w1 ⟨rfl, hb⟩; obtain ⟨hc0, hf0⟩ := bat hb w.heap.size (by simp; omega); obtain ⟨hc1, hf1⟩ := bat hb (w.heap.size + 1) (by simp); have hz := hb.size; simp at hz)
  refine (node_any _ _ hl).mono ?_; rintro e w2 ⟨rfl, hb2⟩; obtain ⟨hc2, hf2⟩ := bat hb2 w.heap.size (by simp; omega); obtain ⟨hc3, hf3⟩ := bat hb2 (w.heap.size + 1) (by simp; omega); have hz2 := hb2.size; simp at hz2
  have hle := nodeN_le l
  by_cases h0 : nodeN l = 0
  · have e : nodeName l = l := by unfold nodeName; rw [if_pos h0]; simp
    have HE := Lib.hid e
    clear e
    rw [h0]
    go_wp2
    exact bodyPost_ret (v := .tuple #[.agg #[.int .i64 s, .string (B l), .int .u64 n, .int .u64 0], .int .i64 0]) (by simp [results, Try.results19, go_sem, hc0, hf0, hc1, hf1, hz, hc2, hz2, hf2, hc3, hf3]) rfl ⟨by rw [HE.out], by ((repeat' (with_reducible first | exact Below.refl _ _ | assumption | refine Below.drew ?_ | refine below_drewN ?_ _ | refine Below.setCell ?_ ?_ _ | refine Below.alloc ?_ ?_ _ | refine Below.ext ?_ ?_ _ | refine Below.trans ?_ (Below.mono ‹_› ?_))) <;> first | omega | (simp; done) | (simp; omega))⟩
  · have e : nodeName l = l.take (nodeN l) := by unfold nodeName; rw [if_neg h0]
    have HE := Lib.hid e
    have hp : (0 : Int) < nodeN l := by omega
    clear e
    go_wp2
    refine bodyPost_ret (v := .tuple #[.agg #[.int .i64 s, .string (B (l.take (nodeN l))), .int .u64 n, .int .u64 0], .int .i64 0]) (by simp [results, Try.results19, go_sem, hc0, hf0, hc1, hf1, hz, hc2, hz2, hf2, hc3, hf3]) rfl ⟨by rw [HE.out], by ((repeat' (with_reducible first | exact Below.refl _ _ | assumption | refine Below.drew ?_ | refine below_drewN ?_ _ | refine Below.setCell ?_ ?_ _ | refine Below.alloc ?_ ?_ _ | refine Below.ext ?_ ?_ _ | refine Below.trans ?_ (Below.mono ‹_› ?_))) <;> first | omega | (simp; done) | (simp; omega))⟩
end Go.Proofs.Ythoickghfjgmmaa.Eid
