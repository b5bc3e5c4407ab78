/-
  The walks of eid, third part: Match, and the check that its laws begin with.
  Conditions: a string is no longer than the model lets it be.
-/
import Derived.Test.YthoickghfjgmmaaEid2
namespace Go.Proofs.Ythoickghfjgmmaa.Eid
open Go.ChangeShapes Go.WideShapes Go.ChangeAt Go.RowKit

/-- 'Match' of a pattern's parts and a name's. -/
def matchB (k : Int) (ps : Int) (pl : List UInt8) (pn pv : Int) (s : Int) (l : List UInt8) (n v : Int) : Bool :=
  rightB s l n v && (k == 0 || (k == 1 && decide (ps = s ∧ pl = l ∧ pn = n ∧ pv = v)) || (k == 2 && rightB ps pl pn pv && decide (ps = s ∧ nodeName pl = nodeName l ∧ pn = n)))
theorem Match_no (k : Int) (ps : Int) (pl : List UInt8) (pn pv : Int) (s : Int) (l : List UInt8) (n v : Int) (w : World) (hl : l.length ≤ maxLen) (h : rightB s l n v = false) :
    Calls Try.prog 22 #[.agg #[.int .i64 k, .int .i64 ps, .string (B pl), .int .u64 pn, .int .u64 pv], .agg #[.int .i64 s, .string (B l), .int .u64 n, .int .u64 v]] w fun e w' => e = .returned (.bool false) ∧ Below w.heap.size w w' := by
  go_enter Try.func22, Try.ntmps22
  go_wp2_with (go_at_call 19; refine (Node_no _ _ _ _ _ hl h).mono ?_; rintro e w1 ⟨rfl, hb⟩; (have hb_s := bs hb (b := w.heap.size) (by first | omega | (simp <;> omega)); obtain ⟨hb_c0, hb_f0⟩ := bat hb (w.heap.size) (by first | omega | (simp <;> omega)); have hb_z0 := bz hb (w.heap.size) (by first | omega | (simp <;> omega)); obtain ⟨hb_c1, hb_f1⟩ := bat hb (w.heap.size + 1) (by first | omega | (simp <;> omega)); have hb_z1 := bz hb (w.heap.size + 1) (by first | omega | (simp <;> omega))))
  go_ret
  exact ⟨rfl, by ((repeat' (with_reducible first | exact Below.refl _ _ | assumption | refine Below.drew ?_ | refine below_drewN ?_ _ | refine Below.setCell ?_ ?_ _ | refine Below.alloc ?_ ?_ _ | refine Below.ext ?_ ?_ _ | refine Below.trans ?_ (Below.mono ‹_› ?_))) <;> first | omega | (simp; done) | (simp; omega))⟩
theorem Match_0 (ps : Int) (pl : List UInt8) (pn pv : Int) (s : Int) (l : List UInt8) (n v : Int) (w : World) (hl : l.length ≤ maxLen) (h : rightB s l n v = true) :
    Calls Try.prog 22 #[.agg #[.int .i64 0, .int .i64 ps, .string (B pl), .int .u64 pn, .int .u64 pv], .agg #[.int .i64 s, .string (B l), .int .u64 n, .int .u64 v]] w fun e w' => e = .returned (.bool true) ∧ Below w.heap.size w w' := by
  go_enter Try.func22, Try.ntmps22
  go_wp2_with (go_at_call 19; refine (Node_yes _ _ _ _ _ hl h).mono ?_; rintro e w1 ⟨rfl, hb⟩; (have hb_s := bs hb (b := w.heap.size) (by first | omega | (simp <;> omega)); obtain ⟨hb_c0, hb_f0⟩ := bat hb (w.heap.size) (by first | omega | (simp <;> omega)); have hb_z0 := bz hb (w.heap.size) (by first | omega | (simp <;> omega)); obtain ⟨hb_c1, hb_f1⟩ := bat hb (w.heap.size + 1) (by first | omega | (simp <;> omega)); have hb_z1 := bz hb (w.heap.size + 1) (by first | omega | (simp <;> omega))))
  go_ret
  exact ⟨rfl, by ((repeat' (with_reducible first | exact Below.refl _ _ | assumption | refine Below.drew ?_ | refine below_drewN ?_ _ | refine Below.setCell ?_ ?_ _ | refine Below.alloc ?_ ?_ _ | refine Below.ext ?_ ?_ _ | refine Below.trans ?_ (Below.mono ‹_› ?_))) <;> first | omega | (simp; done) | (simp; omega))⟩
theorem Match_1 (ps : Int) (pl : List UInt8) (pn pv : Int) (s : Int) (l : List UInt8) (n v : Int) (w : World) (hl : l.length ≤ maxLen) (h : rightB s l n v = true) :
    Calls Try.prog 22 #[.agg #[.int .i64 1, .int .i64 ps, .string (B pl), .int .u64 pn, .int .u64 pv], .agg #[.int .i64 s, .string (B l), .int .u64 n, .int .u64 v]] w fun e w' => e = .returned (.bool (decide (ps = s ∧ pl = l ∧ pn = n ∧ pv = v))) ∧ Below w.heap.size w w' := by
  go_enter Try.func22, Try.ntmps22
  go_wp2_with (go_at_call 19; refine (Node_yes _ _ _ _ _ hl h).mono ?_; rintro e w1 ⟨rfl, hb⟩; (have hb_s := bs hb (b := w.heap.size) (by first | omega | (simp <;> omega)); obtain ⟨hb_c0, hb_f0⟩ := bat hb (w.heap.size) (by first | omega | (simp <;> omega)); have hb_z0 := bz hb (w.heap.size) (by first | omega | (simp <;> omega)); obtain ⟨hb_c1, hb_f1⟩ := bat hb (w.heap.size + 1) (by first | omega | (simp <;> omega)); have hb_z1 := bz hb (w.heap.size + 1) (by first | omega | (simp <;> omega))))
  all_goals
    go_ret
    exact ⟨ret_bool (by simp [*]), by ((repeat' (with_reducible first | exact Below.refl _ _ | assumption | refine Below.drew ?_ | refine below_drewN ?_ _ | refine Below.setCell ?_ ?_ _ | refine Below.alloc ?_ ?_ _ | refine Below.ext ?_ ?_ _ | refine Below.trans ?_ (Below.mono ‹_› ?_))) <;> first | omega | (simp; done) | (simp; omega))⟩
theorem Match_2no (ps : Int) (pl : List UInt8) (pn pv : Int) (s : Int) (l : List UInt8) (n v : Int) (w : World) (hl : l.length ≤ maxLen) (hpl : pl.length ≤ maxLen) (h : rightB s l n v = true) (hp : rightB ps pl pn pv = false) :
    Calls Try.prog 22 #[.agg #[.int .i64 2, .int .i64 ps, .string (B pl), .int .u64 pn, .int .u64 pv], .agg #[.int .i64 s, .string (B l), .int .u64 n, .int .u64 v]] w fun e w' => e = .returned (.bool false) ∧ Below w.heap.size w w' := by
  go_enter Try.func22, Try.ntmps22
  go_wp2_with fail
  refine (Node_yes _ _ _ _ _ hl h).mono ?_; rintro e w1 ⟨rfl, hb⟩; (have hb_s := bs hb (b := w.heap.size) (by first | omega | (simp <;> omega)); obtain ⟨hb_c0, hb_f0⟩ := bat hb (w.heap.size) (by first | omega | (simp <;> omega)); have hb_z0 := bz hb (w.heap.size) (by first | omega | (simp <;> omega)); obtain ⟨hb_c1, hb_f1⟩ := bat hb (w.heap.size + 1) (by first | omega | (simp <;> omega)); have hb_z1 := bz hb (w.heap.size + 1) (by first | omega | (simp <;> omega)))
  go_wp2_with fail
  refine (Node_no _ _ _ _ _ hpl hp).mono ?_; rintro e w2 ⟨rfl, hb2⟩; (have hb2_s := bs hb2 (b := w.heap.size) (by first | omega | (simp <;> omega)); obtain ⟨hb2_c0, hb2_f0⟩ := bat hb2 (w.heap.size) (by first | omega | (simp <;> omega)); have hb2_z0 := bz hb2 (w.heap.size) (by first | omega | (simp <;> omega)); obtain ⟨hb2_c1, hb2_f1⟩ := bat hb2 (w.heap.size + 1) (by first | omega | (simp <;> omega)); have hb2_z1 := bz hb2 (w.heap.size + 1) (by first | omega | (simp <;> omega)); obtain ⟨hb2_c2, hb2_f2⟩ := bat hb2 (w1.heap.size) (by first | omega | (simp <;> omega)); have hb2_z2 := bz hb2 (w1.heap.size) (by first | omega | (simp <;> omega)))
  go_wp2
  go_ret
  exact ⟨rfl, by ((repeat' (with_reducible first | exact Below.refl _ _ | assumption | refine Below.drew ?_ | refine below_drewN ?_ _ | refine Below.setCell ?_ ?_ _ | refine Below.alloc ?_ ?_ _ | refine Below.ext ?_ ?_ _ | refine Below.trans ?_ (Below.mono ‹_› ?_))) <;> first | omega | (simp; done) | (simp; omega))⟩
theorem Match_2 (ps : Int) (pl : List UInt8) (pn pv : Int) (s : Int) (l : List UInt8) (n v : Int) (w : World) (hl : l.length ≤ maxLen) (hpl : pl.length ≤ maxLen) (h : rightB s l n v = true) (hp : rightB ps pl pn pv = true) :
    Calls Try.prog 22 #[.agg #[.int .i64 2, .int .i64 ps, .string (B pl), .int .u64 pn, .int .u64 pv], .agg #[.int .i64 s, .string (B l), .int .u64 n, .int .u64 v]] w fun e w' => e = .returned (.bool (decide (ps = s ∧ nodeName pl = nodeName l ∧ pn = n))) ∧ Below w.heap.size w w' := by
  go_enter Try.func22, Try.ntmps22
  go_wp2_with fail
  refine (Node_yes _ _ _ _ _ hl h).mono ?_; rintro e w1 ⟨rfl, hb⟩; (have hb_s := bs hb (b := w.heap.size) (by first | omega | (simp <;> omega)); obtain ⟨hb_c0, hb_f0⟩ := bat hb (w.heap.size) (by first | omega | (simp <;> omega)); have hb_z0 := bz hb (w.heap.size) (by first | omega | (simp <;> omega)); obtain ⟨hb_c1, hb_f1⟩ := bat hb (w.heap.size + 1) (by first | omega | (simp <;> omega)); have hb_z1 := bz hb (w.heap.size + 1) (by first | omega | (simp <;> omega)))
  go_wp2_with fail
  refine (Node_yes _ _ _ _ _ hpl hp).mono ?_; rintro e w2 ⟨rfl, hb2⟩; (have hb2_s := bs hb2 (b := w.heap.size) (by first | omega | (simp <;> omega)); obtain ⟨hb2_c0, hb2_f0⟩ := bat hb2 (w.heap.size) (by first | omega | (simp <;> omega)); have hb2_z0 := bz hb2 (w.heap.size) (by first | omega | (simp <;> omega)); obtain ⟨hb2_c1, hb2_f1⟩ := bat hb2 (w.heap.size + 1) (by first | omega | (simp <;> omega)); have hb2_z1 := bz hb2 (w.heap.size + 1) (by first | omega | (simp <;> omega)); obtain ⟨hb2_c2, hb2_f2⟩ := bat hb2 (w1.heap.size) (by first | omega | (simp <;> omega)); have hb2_z2 := bz hb2 (w1.heap.size) (by first | omega | (simp <;> omega)))
  generalize hx : nodeName pl = x at *
  generalize hy : nodeName l = y at *
  have HX := Lib.hid hx
  have HY := Lib.hid hy
  clear hx hy
  go_wp2
  all_goals
    go_ret
    exact ⟨ret_bool (by simp [HX.out, HY.out, *]), by ((repeat' (with_reducible first | exact Below.refl _ _ | assumption | refine Below.drew ?_ | refine below_drewN ?_ _ | refine Below.setCell ?_ ?_ _ | refine Below.alloc ?_ ?_ _ | refine Below.ext ?_ ?_ _ | refine Below.trans ?_ (Below.mono ‹_› ?_))) <;> first | omega | (simp; done) | (simp; omega))⟩
theorem Match_bad (k : Int) (ps : Int) (pl : List UInt8) (pn pv : Int) (s : Int) (l : List UInt8) (n v : Int) (w : World) (hl : l.length ≤ maxLen) (h : rightB s l n v = true) (h0 : (k == 0) = false) (h1 : (k == 1) = false) (h2 : (k == 2) = false) :
    Calls Try.prog 22 #[.agg #[.int .i64 k, .int .i64 ps, .string (B pl), .int .u64 pn, .int .u64 pv], .agg #[.int .i64 s, .string (B l), .int .u64 n, .int .u64 v]] w fun e w' => e = .returned (.bool false) ∧ Below w.heap.size w w' := by
  go_enter Try.func22, Try.ntmps22
  go_wp2_with (go_at_call 19; refine (Node_yes _ _ _ _ _ hl h).mono ?_; rintro e w1 ⟨rfl, hb⟩; (have hb_s := bs hb (b := w.heap.size) (by first | omega | (simp <;> omega)); obtain ⟨hb_c0, hb_f0⟩ := bat hb (w.heap.size) (by first | omega | (simp <;> omega)); have hb_z0 := bz hb (w.heap.size) (by first | omega | (simp <;> omega)); obtain ⟨hb_c1, hb_f1⟩ := bat hb (w.heap.size + 1) (by first | omega | (simp <;> omega)); have hb_z1 := bz hb (w.heap.size + 1) (by first | omega | (simp <;> omega))))
  go_ret
  exact ⟨rfl, by ((repeat' (with_reducible first | exact Below.refl _ _ | assumption | refine Below.drew ?_ | refine below_drewN ?_ _ | refine Below.setCell ?_ ?_ _ | refine Below.alloc ?_ ?_ _ | refine Below.ext ?_ ?_ _ | refine Below.trans ?_ (Below.mono ‹_› ?_))) <;> first | omega | (simp; done) | (simp; omega))⟩
theorem Match_any (k : Int) (ps : Int) (pl : List UInt8) (pn pv : Int) (s : Int) (l : List UInt8) (n v : Int) (w : World) (hl : l.length ≤ maxLen) (hpl : pl.length ≤ maxLen) :
    Calls Try.prog 22 #[.agg #[.int .i64 k, .int .i64 ps, .string (B pl), .int .u64 pn, .int .u64 pv], .agg #[.int .i64 s, .string (B l), .int .u64 n, .int .u64 v]] w fun e w' => e = .returned (.bool (matchB k ps pl pn pv s l n v)) ∧ Below w.heap.size w w' := by
  cases h : rightB s l n v
  · rw [show matchB k ps pl pn pv s l n v = false by simp [matchB, h]]
    exact Match_no k ps pl pn pv s l n v w hl h
  · by_cases h0 : k = 0
    · subst h0
      rw [show matchB 0 ps pl pn pv s l n v = true by simp [matchB, h]]
      exact Match_0 ps pl pn pv s l n v w hl h
    · by_cases h1 : k = 1
      · subst h1
        rw [show matchB 1 ps pl pn pv s l n v = decide (ps = s ∧ pl = l ∧ pn = n ∧ pv = v) by simp [matchB, h]]
        exact Match_1 ps pl pn pv s l n v w hl h
      · by_cases h2 : k = 2
        · subst h2
          cases hp : rightB ps pl pn pv
          · rw [show matchB 2 ps pl pn pv s l n v = false by simp [matchB, h, hp]]
            exact Match_2no ps pl pn pv s l n v w hl hpl h hp
          · rw [show matchB 2 ps pl pn pv s l n v = decide (ps = s ∧ nodeName pl = nodeName l ∧ pn = n) by simp [matchB, h, hp]]
            exact Match_2 ps pl pn pv s l n v w hl hpl h hp
        · rw [show matchB k ps pl pn pv s l n v = false by simp [matchB, h, h0, h1, h2]]
          exact Match_bad k ps pl pn pv s l n v w hl h (by simp [h0]) (by simp [h1]) (by simp [h2])
theorem awake_any (w : World) : Calls Try.prog 17 #[] w fun e w' => e = .returned (.bool true) ∧ Below w.heap.size w w' := by
  have hr : rightB 1 [110, 111, 110, 101] 0 0 = true := by decide
  go_enter Try.func17, Try.ntmps17
  go_wp2_with fail
  refine (None_any _).mono ?_; rintro e w1 ⟨rfl, hb⟩; (have hb_s := bs hb (b := w.heap.size) (by first | omega | (simp <;> omega)))
  go_wp2_with fail
  refine (None_any _).mono ?_; rintro e w2 ⟨rfl, hb2⟩; (have hb2_s := bs hb2 (b := w.heap.size) (by first | omega | (simp <;> omega)))
  go_wp2_with fail
  refine (Right_any _ _ _ _ _ (by decide)).mono ?_; rintro e w3 ⟨rfl, hb3⟩; (have hb3_s := bs hb3 (b := w.heap.size) (by first | omega | (simp <;> omega)))
  rw [hr]
  go_wp2
  go_ret
  exact ⟨rfl, by ((repeat' (with_reducible first | exact Below.refl _ _ | assumption | refine Below.drew ?_ | refine below_drewN ?_ _ | refine Below.setCell ?_ ?_ _ | refine Below.alloc ?_ ?_ _ | refine Below.ext ?_ ?_ _ | refine Below.trans ?_ (Below.mono ‹_› ?_))) <;> first | omega | (simp; done) | (simp; omega))⟩
end Go.Proofs.Ythoickghfjgmmaa.Eid
