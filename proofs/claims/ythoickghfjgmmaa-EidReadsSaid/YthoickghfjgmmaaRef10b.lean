/-
  The walks of the reference for names, second part: Right whole, Node, and Match where it is plain.
  Conditions: a string is no longer than the model lets it be.
-/
import Derived.Test.YthoickghfjgmmaaRef10
import Derived.Test.YthoickghfjgmmaaExt
import Derived.StillTailTactics
import Derived.Deep.QuietTactic
import Derived.BigQuiet
import Derived.IntWalk
import Derived.Deep.RegionHeld3
namespace Go.Proofs.Ythoickghfjgmmaa.Eid
open Go.ChangeShapes Go.WideShapes Go.ChangeAt Go.RowKit
theorem rRight_any (s : Int) (l : List UInt8) (n v : Int) (w : World) : Calls Try.prog 20 #[.agg #[.int .i64 s, .string (B l), .int .u64 n, .int .u64 v]] w fun e w' => e = .returned (.bool (rightB s l n v)) ∧ Below w.heap.size w w' := by
  by_cases h1 : s = 1
  · subst h1
    by_cases h : n = 0 ∧ v = 0 ∧ l.length ≤ 60
    · obtain ⟨rfl, rfl, h60⟩ := h
      have e : rightB 1 l 0 0 = refNamed l := by rw [refNamed_eq l h60]; simp [rightB]
      rw [e]
      cases hne : (l == [110, 111, 110, 101])
      · exact rRight_1 l w h60 hne
      · rw [show refNamed l = true by unfold refNamed; rw [hne]; rfl]
        rw [beq_iff_eq] at hne
        subst hne
        exact rRight_none w
    · rw [show rightB 1 l n v = false by
        by_cases hnv : n = 0 ∧ v = 0
        · simp [rightB, namedB_long l (by omega)]
        · simp [rightB, hnv]]
      exact rRight_nv l n v w h
  · by_cases h2 : s = 2
    · subst h2
      exact rRight_2 l n v w
    · rw [show rightB s l n v = false by simp [rightB, h1, h2]]
      exact rRight_not s l n v w (by simp [h1]) (by simp [h2])
/-- The reference's Name of a right name's node. -/
theorem right_slash {l : List UInt8} (h : rightB 1 l 0 0 = true) (hne : (l == [110, 111, 110, 101]) = false) : nodeName l = l.take (sl (l.drop 2) 2 + 1) ∧ sl (l.drop 2) 2 + 1 ≤ l.length := by
  have hn : namedB l = true := by simpa [rightB] using h
  unfold namedB at hn
  rw [hne, Bool.false_or, Bool.and_eq_true] at hn
  have hz : nodeN l ≠ 0 := by simpa using hn.1
  have hle := nodeN_le l
  unfold nodeName
  rw [if_neg hz]
  unfold nodeN at hz hle ⊢
  split at hz
  · rename_i hp
    rw [if_pos hp] at hle ⊢
    obtain ⟨h1, _⟩ := (scan_sl (l.drop 2) 0).2 hz
    rw [h1] at hle ⊢
    exact ⟨rfl, hle⟩
  · exact absurd rfl hz
theorem rNode_2 (s : Int) (l : List UInt8) (n v : Int) (w : World) (h : (s == 1) = false) : Calls Try.prog 21 #[.agg #[.int .i64 s, .string (B l), .int .u64 n, .int .u64 v]] w fun e w' => e = .returned (.agg #[.int .i64 s, .string (B l), .int .u64 n, .int .u64 0]) ∧ Below w.heap.size w w' := by
  go_enter Try.func21, Try.ntmps21
  go_wp2
  exact bodyPost_ret (v := .agg #[.int .i64 s, .string (B l), .int .u64 n, .int .u64 0]) (by simp [results, Try.results21, go_sem]) rfl ⟨rfl, by ((repeat' (with_reducible first | exact Below.refl _ _ | assumption | refine Below.drew ?_ | refine below_drewN ?_ _ | refine Below.setCell ?_ ?_ _ | refine Below.alloc ?_ ?_ _ | refine Below.ext ?_ ?_ _ | refine Below.trans ?_ (Below.mono ‹_› ?_))) <;> first | omega | (simp; done) | (simp; omega))⟩
theorem rNode_none (n v : Int) (w : World) : Calls Try.prog 21 #[.agg #[.int .i64 1, .string (B [110, 111, 110, 101]), .int .u64 n, .int .u64 v]] w fun e w' => e = .returned (.agg #[.int .i64 1, .string (B [110, 111, 110, 101]), .int .u64 n, .int .u64 0]) ∧ Below w.heap.size w w' := by
  go_enter Try.func21, Try.ntmps21
  go_wp2
  exact bodyPost_ret (v := .agg #[.int .i64 1, .string (B [110, 111, 110, 101]), .int .u64 n, .int .u64 0]) (by simp [results, Try.results21, go_sem]) rfl ⟨rfl, by ((repeat' (with_reducible first | exact Below.refl _ _ | assumption | refine Below.drew ?_ | refine below_drewN ?_ _ | refine Below.setCell ?_ ?_ _ | refine Below.alloc ?_ ?_ _ | refine Below.ext ?_ ?_ _ | refine Below.trans ?_ (Below.mono ‹_› ?_))) <;> first | omega | (simp; done) | (simp; omega))⟩
theorem rNode_1 (l : List UInt8) (n v : Int) (w : World) (hl : l.length ≤ maxLen) (hne : (l == [110, 111, 110, 101]) = false) (hs : sl (l.drop 2) 2 + 1 ≤ l.length) : Calls Try.prog 21 #[.agg #[.int .i64 1, .string (B l), .int .u64 n, .int .u64 v]] w fun e w' => e = .returned (.agg #[.int .i64 1, .string (B (l.take (sl (l.drop 2) 2 + 1))), .int .u64 n, .int .u64 0]) ∧ Below w.heap.size w w' := by
  have hl0 := hl
  unfold maxLen at hl0
  generalize hk : sl (l.drop 2) 2 = k at *
  have HK := Lib.hid hk
  clear hk
  go_enter Try.func21, Try.ntmps21
  have hi : (k : Int) + 1 ≤ (l.length : Int) := by omega
  have hi0 : (0 : Int) ≤ (k : Int) + 1 := by omega
  have hw : IntKind.i64.wrap ((k : Int) + 1) = (k : Int) + 1 := IntWalk.i64_in _ (by omega)
  have ht : ((k : Int) + 1).toNat = k + 1 := by omega
  go_wp2
  go_region_with (go_at_call 47; refine (Slash_any _ _ hl).mono ?_; rw [HK.out]; rintro e w1 ⟨rfl, rfl⟩)
  all_goals
    go_wp2
    exact bodyPost_ret (v := .agg #[.int .i64 1, .string (B (l.take (k + 1))), .int .u64 n, .int .u64 0]) (by simp [results, Try.results21, go_sem]) rfl ⟨rfl, by ((repeat' (with_reducible first | exact Below.refl _ _ | assumption | refine Below.drew ?_ | refine below_drewN ?_ _ | refine Below.setCell ?_ ?_ _ | refine Below.alloc ?_ ?_ _ | refine Below.ext ?_ ?_ _ | refine Below.trans ?_ (Below.mono ‹_› ?_))) <;> first | omega | (simp; done) | (simp; omega))⟩
theorem rNode_right (s : Int) (l : List UInt8) (n v : Int) (w : World) (hl : l.length ≤ maxLen) (h : rightB s l n v = true) : Calls Try.prog 21 #[.agg #[.int .i64 s, .string (B l), .int .u64 n, .int .u64 v]] w fun e w' => e = .returned (.agg #[.int .i64 s, .string (B (nodeName l)), .int .u64 n, .int .u64 0]) ∧ Below w.heap.size w w' := by
  by_cases h1 : s = 1
  · subst h1
    have hnv : n = 0 ∧ v = 0 := by
      simp [rightB] at h
      exact h.1
    obtain ⟨rfl, rfl⟩ := hnv
    cases hne : (l == [110, 111, 110, 101])
    · obtain ⟨e1, e2⟩ := right_slash h hne
      rw [e1]
      exact rNode_1 l 0 0 w hl hne e2
    · rw [beq_iff_eq] at hne
      subst hne
      exact rNode_none 0 0 w
  · have h2 : s = 2 := by
      by_cases h2 : s = 2
      · exact h2
      · simp [rightB, h1, h2] at h
    subst h2
    have hn : l = [] := by
      simp [rightB] at h
      exact h.1
    subst hn
    exact rNode_2 2 [] n v w (by decide)
theorem rMatch_no (k : Int) (ps : Int) (pl : List UInt8) (pn pv : Int) (s : Int) (l : List UInt8) (n v : Int) (w : World) (h : rightB s l n v = false) :
    Calls Try.prog 23 #[.agg #[.int .i64 k, .int .i64 ps, .string (B pl), .int .u64 pn, .int .u64 pv], .agg #[.int .i64 s, .string (B l), .int .u64 n, .int .u64 v]] w fun e w' => e = .returned (.bool false) ∧ Below w.heap.size w w' := by
  go_enter Try.func23, Try.ntmps23
  go_wp2_with (go_at_call 20; refine (rRight_any _ _ _ _ _).mono ?_; rw [h]; rintro e w1 ⟨rfl, hb⟩; (have hb_s := bs hb (b := w.heap.size) (by first | omega | (simp <;> omega)); obtain ⟨hb_c0, hb_f0⟩ := bat hb (w.heap.size) (by first | omega | (simp <;> omega)); have hb_z0 := bz hb (w.heap.size) (by first | omega | (simp <;> omega)); obtain ⟨hb_c1, hb_f1⟩ := bat hb (w.heap.size + 1) (by first | omega | (simp <;> omega)); have hb_z1 := bz hb (w.heap.size + 1) (by first | omega | (simp <;> omega))))
  go_ret
  exact ⟨rfl, by ((repeat' (with_reducible first | exact Below.refl _ _ | assumption | refine Below.drew ?_ | refine below_drewN ?_ _ | refine Below.setCell ?_ ?_ _ | refine Below.alloc ?_ ?_ _ | refine Below.ext ?_ ?_ _ | refine Below.trans ?_ (Below.mono ‹_› ?_))) <;> first | omega | (simp; done) | (simp; omega))⟩
theorem rMatch_bad (k : Int) (ps : Int) (pl : List UInt8) (pn pv : Int) (s : Int) (l : List UInt8) (n v : Int) (w : World) (h : rightB s l n v = true) (hk : k < 0 ∨ 2 < k) :
    Calls Try.prog 23 #[.agg #[.int .i64 k, .int .i64 ps, .string (B pl), .int .u64 pn, .int .u64 pv], .agg #[.int .i64 s, .string (B l), .int .u64 n, .int .u64 v]] w fun e w' => e = .returned (.bool false) ∧ Below w.heap.size w w' := by
  go_enter Try.func23, Try.ntmps23
  rcases hk with hk | hk
  · go_wp2_with (go_at_call 20; refine (rRight_any _ _ _ _ _).mono ?_; rw [h]; rintro e w1 ⟨rfl, hb⟩; (have hb_s := bs hb (b := w.heap.size) (by first | omega | (simp <;> omega)); obtain ⟨hb_c0, hb_f0⟩ := bat hb (w.heap.size) (by first | omega | (simp <;> omega)); have hb_z0 := bz hb (w.heap.size) (by first | omega | (simp <;> omega)); obtain ⟨hb_c1, hb_f1⟩ := bat hb (w.heap.size + 1) (by first | omega | (simp <;> omega)); have hb_z1 := bz hb (w.heap.size + 1) (by first | omega | (simp <;> omega))))
    go_ret
    exact ⟨rfl, by ((repeat' (with_reducible first | exact Below.refl _ _ | assumption | refine Below.drew ?_ | refine below_drewN ?_ _ | refine Below.setCell ?_ ?_ _ | refine Below.alloc ?_ ?_ _ | refine Below.ext ?_ ?_ _ | refine Below.trans ?_ (Below.mono ‹_› ?_))) <;> first | omega | (simp; done) | (simp; omega))⟩
  · have hk0 : ¬ k < 0 := by omega
    go_wp2_with (go_at_call 20; refine (rRight_any _ _ _ _ _).mono ?_; rw [h]; rintro e w1 ⟨rfl, hb⟩; (have hb_s := bs hb (b := w.heap.size) (by first | omega | (simp <;> omega)); obtain ⟨hb_c0, hb_f0⟩ := bat hb (w.heap.size) (by first | omega | (simp <;> omega)); have hb_z0 := bz hb (w.heap.size) (by first | omega | (simp <;> omega)); obtain ⟨hb_c1, hb_f1⟩ := bat hb (w.heap.size + 1) (by first | omega | (simp <;> omega)); have hb_z1 := bz hb (w.heap.size + 1) (by first | omega | (simp <;> omega))))
    go_ret
    exact ⟨rfl, by ((repeat' (with_reducible first | exact Below.refl _ _ | assumption | refine Below.drew ?_ | refine below_drewN ?_ _ | refine Below.setCell ?_ ?_ _ | refine Below.alloc ?_ ?_ _ | refine Below.ext ?_ ?_ _ | refine Below.trans ?_ (Below.mono ‹_› ?_))) <;> first | omega | (simp; done) | (simp; omega))⟩
theorem rMatch_0 (ps : Int) (pl : List UInt8) (pn pv : Int) (s : Int) (l : List UInt8) (n v : Int) (w : World) (h : rightB s l n v = true) :
    Calls Try.prog 23 #[.agg #[.int .i64 0, .int .i64 ps, .string (B pl), .int .u64 pn, .int .u64 pv], .agg #[.int .i64 s, .string (B l), .int .u64 n, .int .u64 v]] w fun e w' => e = .returned (.bool true) ∧ Below w.heap.size w w' := by
  go_enter Try.func23, Try.ntmps23
  go_wp2_with (go_at_call 20; refine (rRight_any _ _ _ _ _).mono ?_; rw [h]; rintro e w1 ⟨rfl, hb⟩; (have hb_s := bs hb (b := w.heap.size) (by first | omega | (simp <;> omega)); obtain ⟨hb_c0, hb_f0⟩ := bat hb (w.heap.size) (by first | omega | (simp <;> omega)); have hb_z0 := bz hb (w.heap.size) (by first | omega | (simp <;> omega)); obtain ⟨hb_c1, hb_f1⟩ := bat hb (w.heap.size + 1) (by first | omega | (simp <;> omega)); have hb_z1 := bz hb (w.heap.size + 1) (by first | omega | (simp <;> omega))))
  go_quiet (fail)
  go_wp2
  go_ret
  exact ⟨rfl, by ((repeat' (with_reducible first | exact Below.refl _ _ | assumption | refine Below.drew ?_ | refine below_drewN ?_ _ | refine Below.setCell ?_ ?_ _ | refine Below.alloc ?_ ?_ _ | refine Below.ext ?_ ?_ _ | refine Below.trans ?_ (Below.mono ‹_› ?_))) <;> first | omega | (simp; done) | (simp; omega))⟩
end Go.Proofs.Ythoickghfjgmmaa.Eid
