/-
  The reference of names: Match whole; and the law EidMatches, walked: the two Matches agree on every pattern and every name.
  Conditions: none.
-/
import Derived.Test.YthoickghfjgmmaaRef10b
namespace Go.Proofs.Ythoickghfjgmmaa.Eid
open Go.ChangeShapes Go.WideShapes Go.ChangeAt Go.RowKit
theorem rMatch_1 (ps : Int) (pl : List UInt8) (pn pv : Int) (s : Int) (l : List UInt8) (n v : Int) (w : World) (h : rightB s l n v = true) :
    Calls Try.prog 23 #[.agg #[.int .i64 1, .int .i64 ps, .string (B pl), .int .u64 pn, .int .u64 pv], .agg #[.int .i64 s, .string (B l), .int .u64 n, .int .u64 v]] w fun e w' => e = .returned (.bool (decide (ps = s ∧ pl = l ∧ pn = n ∧ pv = v))) ∧ Below w.heap.size w w' := by
  by_cases hE : ps = s ∧ pl = l ∧ pn = n ∧ pv = v
  · obtain ⟨rfl, rfl, rfl, rfl⟩ := hE
    go_enter Try.func23, Try.ntmps23
    go_wp2_with (go_at_call 20; refine (rRight_any _ _ _ _ _).mono ?_; rw [h]; rintro e w1 ⟨rfl, hb⟩; (have hb_s := bs hb (b := w.heap.size) (by first | omega | (simp <;> omega)); obtain ⟨hb_c0, hb_f0⟩ := bat hb (w.heap.size) (by first | omega | (simp <;> omega)); have hb_z0 := bz hb (w.heap.size) (by first | omega | (simp <;> omega)); obtain ⟨hb_c1, hb_f1⟩ := bat hb (w.heap.size + 1) (by first | omega | (simp <;> omega)); have hb_z1 := bz hb (w.heap.size + 1) (by first | omega | (simp <;> omega))))
    go_quiet (fail)
    go_wp2
    go_ret
    exact ⟨ret_bool (by simp), by ((repeat' (with_reducible first | exact Below.refl _ _ | assumption | refine Below.drew ?_ | refine below_drewN ?_ _ | refine Below.setCell ?_ ?_ _ | refine Below.alloc ?_ ?_ _ | refine Below.ext ?_ ?_ _ | refine Below.trans ?_ (Below.mono ‹_› ?_))) <;> first | omega | (simp; done) | (simp; omega))⟩
  · have HE := Lib.hid hE
    clear hE
    go_enter Try.func23, Try.ntmps23
    go_wp2_with (go_at_call 20; refine (rRight_any _ _ _ _ _).mono ?_; rw [h]; rintro e w1 ⟨rfl, hb⟩; (have hb_s := bs hb (b := w.heap.size) (by first | omega | (simp <;> omega)); obtain ⟨hb_c0, hb_f0⟩ := bat hb (w.heap.size) (by first | omega | (simp <;> omega)); have hb_z0 := bz hb (w.heap.size) (by first | omega | (simp <;> omega)); obtain ⟨hb_c1, hb_f1⟩ := bat hb (w.heap.size + 1) (by first | omega | (simp <;> omega)); have hb_z1 := bz hb (w.heap.size + 1) (by first | omega | (simp <;> omega))))
    all_goals first
      | (go_ret; exact ⟨ret_bool (by simp; exact fun a b c d => HE.out ⟨a, b, c, d⟩), by ((repeat' (with_reducible first | exact Below.refl _ _ | assumption | refine Below.drew ?_ | refine below_drewN ?_ _ | refine Below.setCell ?_ ?_ _ | refine Below.alloc ?_ ?_ _ | refine Below.ext ?_ ?_ _ | refine Below.trans ?_ (Below.mono ‹_› ?_))) <;> first | omega | (simp; done) | (simp; omega))⟩)
      | (exfalso; exact HE.out ⟨‹_›, ‹_›, ‹_›, ‹_›⟩)
theorem rMatch_2no (ps : Int) (pl : List UInt8) (pn pv : Int) (s : Int) (l : List UInt8) (n v : Int) (w : World) (h : rightB s l n v = true) (hp : rightB ps pl pn pv = false) :
    Calls Try.prog 23 #[.agg #[.int .i64 2, .int .i64 ps, .string (B pl), .int .u64 pn, .int .u64 pv], .agg #[.int .i64 s, .string (B l), .int .u64 n, .int .u64 v]] w fun e w' => e = .returned (.bool false) ∧ Below w.heap.size w w' := by
  have H := fun W => rRight_any s l n v W
  have HP := fun W => rRight_any ps pl pn pv W
  rw [h] at H
  rw [hp] at HP
  go_enter Try.func23, Try.ntmps23
  go_wp2_with fail
  refine Calls.ext (H _) fun u => ?_
  go_wp2
  (refine wp_region_ext_lit (by kernel_rfl) (by kernel_rfl) ?_; (repeat (any_goals (first | go_big_quiet_step ((first | (go_at_call 20; with_reducible first | exact Calls.ext_of' (HP _) | exact Calls.ext_of (HP _) | exact Calls.ext_of_same' (HP _) | exact Calls.ext_of_same (HP _)))) | quiet_step ((first | (go_at_call 20; with_reducible first | exact Calls.ext_of' (HP _) | exact Calls.ext_of (HP _) | exact Calls.ext_of_same' (HP _) | exact Calls.ext_of_same (HP _))))))); refine wpQuiet_nil ?_; rintro _ ⟨u1, rfl⟩)
  go_wp2
  go_ret
  exact ⟨rfl, by ((repeat' (with_reducible first | exact Below.refl _ _ | assumption | refine Below.drew ?_ | refine below_drewN ?_ _ | refine Below.setCell ?_ ?_ _ | refine Below.alloc ?_ ?_ _ | refine Below.ext ?_ ?_ _ | refine Below.trans ?_ (Below.mono ‹_› ?_))) <;> first | omega | (simp; done) | (simp; omega))⟩
theorem rMatch_2 (ps : Int) (pl : List UInt8) (pn pv : Int) (s : Int) (l : List UInt8) (n v : Int) (w : World) (hl : l.length ≤ maxLen) (hpl : pl.length ≤ maxLen) (h : rightB s l n v = true) (hp : rightB ps pl pn pv = true) :
    Calls Try.prog 23 #[.agg #[.int .i64 2, .int .i64 ps, .string (B pl), .int .u64 pn, .int .u64 pv], .agg #[.int .i64 s, .string (B l), .int .u64 n, .int .u64 v]] w fun e w' => e = .returned (.bool (decide (ps = s ∧ nodeName pl = nodeName l ∧ pn = n))) ∧ Below w.heap.size w w' := by
  have H := fun W => rRight_any s l n v W
  have HP := fun W => rRight_any ps pl pn pv W
  have N1 := fun W => rNode_right s l n v W hl h
  have N2 := fun W => rNode_right ps pl pn pv W hpl hp
  rw [h] at H
  rw [hp] at HP
  generalize hx : nodeName pl = x at *
  generalize hy : nodeName l = y at *
  have HX := Lib.hid hx
  have HY := Lib.hid hy
  clear hx hy
  by_cases hE : ps = s ∧ x = y ∧ pn = n
  · obtain ⟨rfl, rfl, rfl⟩ := hE
    go_enter Try.func23, Try.ntmps23
    go_wp2_with fail
    refine Calls.ext (H _) fun u => ?_
    go_wp2
    (refine wp_region_ext_lit (by kernel_rfl) (by kernel_rfl) ?_; (repeat (any_goals (first | go_big_quiet_step ((first | (go_at_call 20; with_reducible first | exact Calls.ext_of' (HP _) | exact Calls.ext_of (HP _) | exact Calls.ext_of_same' (HP _) | exact Calls.ext_of_same (HP _)) | (go_at_call 21; with_reducible first | exact Calls.ext_of' (N1 _) | exact Calls.ext_of (N1 _) | exact Calls.ext_of_same' (N1 _) | exact Calls.ext_of_same (N1 _)) | (go_at_call 21; with_reducible first | exact Calls.ext_of' (N2 _) | exact Calls.ext_of (N2 _) | exact Calls.ext_of_same' (N2 _) | exact Calls.ext_of_same (N2 _)))) | quiet_step ((first | (go_at_call 20; with_reducible first | exact Calls.ext_of' (HP _) | exact Calls.ext_of (HP _) | exact Calls.ext_of_same' (HP _) | exact Calls.ext_of_same (HP _)) | (go_at_call 21; with_reducible first | exact Calls.ext_of' (N1 _) | exact Calls.ext_of (N1 _) | exact Calls.ext_of_same' (N1 _) | exact Calls.ext_of_same (N1 _)) | (go_at_call 21; with_reducible first | exact Calls.ext_of' (N2 _) | exact Calls.ext_of (N2 _) | exact Calls.ext_of_same' (N2 _) | exact Calls.ext_of_same (N2 _))))))); refine wpQuiet_nil ?_; rintro _ ⟨u1, rfl⟩)
    go_wp2
    go_ret
    exact ⟨ret_bool (by simp [HX.out, HY.out]), by ((repeat' (with_reducible first | exact Below.refl _ _ | assumption | refine Below.drew ?_ | refine below_drewN ?_ _ | refine Below.setCell ?_ ?_ _ | refine Below.alloc ?_ ?_ _ | refine Below.ext ?_ ?_ _ | refine Below.trans ?_ (Below.mono ‹_› ?_))) <;> first | omega | (simp; done) | (simp; omega))⟩
  · have HE := Lib.hid hE
    have h3 : ¬ ps = s ∨ (ps = s ∧ ¬ x = y) ∨ (ps = s ∧ x = y ∧ ¬ pn = n) := by
      by_cases a : ps = s
      · by_cases b : x = y
        · exact Or.inr (Or.inr ⟨a, b, fun c => hE ⟨a, b, c⟩⟩)
        · exact Or.inr (Or.inl ⟨a, b⟩)
      · exact Or.inl a
    clear hE
    have hfin : (decide (ps = s ∧ x = y ∧ pn = n)) = false := decide_eq_false HE.out
    rw [hfin]
    clear hfin
    rcases h3 with h3 | ⟨rfl, h3⟩ | ⟨rfl, rfl, h3⟩
    all_goals
      go_enter Try.func23, Try.ntmps23
      go_wp2_with fail
      refine Calls.ext (H _) fun u => ?_
      go_wp2
      (refine wp_region_ext_lit (by kernel_rfl) (by kernel_rfl) ?_; (repeat (any_goals (first | go_big_quiet_step ((first | (go_at_call 20; with_reducible first | exact Calls.ext_of' (HP _) | exact Calls.ext_of (HP _) | exact Calls.ext_of_same' (HP _) | exact Calls.ext_of_same (HP _)) | (go_at_call 21; with_reducible first | exact Calls.ext_of' (N1 _) | exact Calls.ext_of (N1 _) | exact Calls.ext_of_same' (N1 _) | exact Calls.ext_of_same (N1 _)) | (go_at_call 21; with_reducible first | exact Calls.ext_of' (N2 _) | exact Calls.ext_of (N2 _) | exact Calls.ext_of_same' (N2 _) | exact Calls.ext_of_same (N2 _)))) | quiet_step ((first | (go_at_call 20; with_reducible first | exact Calls.ext_of' (HP _) | exact Calls.ext_of (HP _) | exact Calls.ext_of_same' (HP _) | exact Calls.ext_of_same (HP _)) | (go_at_call 21; with_reducible first | exact Calls.ext_of' (N1 _) | exact Calls.ext_of (N1 _) | exact Calls.ext_of_same' (N1 _) | exact Calls.ext_of_same (N1 _)) | (go_at_call 21; with_reducible first | exact Calls.ext_of' (N2 _) | exact Calls.ext_of (N2 _) | exact Calls.ext_of_same' (N2 _) | exact Calls.ext_of_same (N2 _))))))); refine wpQuiet_nil ?_; rintro _ ⟨u1, rfl⟩)
      go_wp2
      go_ret
      exact ⟨rfl, by ((repeat' (with_reducible first | exact Below.refl _ _ | assumption | refine Below.drew ?_ | refine below_drewN ?_ _ | refine Below.setCell ?_ ?_ _ | refine Below.alloc ?_ ?_ _ | refine Below.ext ?_ ?_ _ | refine Below.trans ?_ (Below.mono ‹_› ?_))) <;> first | omega | (simp; done) | (simp; omega))⟩
theorem rMatch_any (k : Int) (ps : Int) (pl : List UInt8) (pn pv : Int) (s : Int) (l : List UInt8) (n v : Int) (w : World) (hl : l.length ≤ maxLen) (hpl : pl.length ≤ maxLen) :
    Calls Try.prog 23 #[.agg #[.int .i64 k, .int .i64 ps, .string (B pl), .int .u64 pn, .int .u64 pv], .agg #[.int .i64 s, .string (B l), .int .u64 n, .int .u64 v]] w fun e w' => e = .returned (.bool (matchB k ps pl pn pv s l n v)) ∧ Below w.heap.size w w' := by
  cases h : rightB s l n v
  · rw [show matchB k ps pl pn pv s l n v = false by simp [matchB, h]]
    exact rMatch_no k ps pl pn pv s l n v w h
  · by_cases h0 : k = 0
    · subst h0
      rw [show matchB 0 ps pl pn pv s l n v = true by simp [matchB, h]]
      exact rMatch_0 ps pl pn pv s l n v w h
    · by_cases h1 : k = 1
      · subst h1
        rw [show matchB 1 ps pl pn pv s l n v = decide (ps = s ∧ pl = l ∧ pn = n ∧ pv = v) by simp [matchB, h]]
        exact rMatch_1 ps pl pn pv s l n v w h
      · by_cases h2 : k = 2
        · subst h2
          cases hp : rightB ps pl pn pv
          · rw [show matchB 2 ps pl pn pv s l n v = false by simp [matchB, h, hp]]
            exact rMatch_2no ps pl pn pv s l n v w h hp
          · rw [show matchB 2 ps pl pn pv s l n v = decide (ps = s ∧ nodeName pl = nodeName l ∧ pn = n) by simp [matchB, h, hp]]
            exact rMatch_2 ps pl pn pv s l n v w hl hpl h hp
        · rw [show matchB k ps pl pn pv s l n v = false by simp [matchB, h, h0, h1, h2]]
          exact rMatch_bad k ps pl pn pv s l n v w h (by omega)
theorem EidMatches_any (k : Int) (ps : Int) (pl : List UInt8) (pn pv : Int) (s : Int) (l : List UInt8) (n v : Int) (w : World) :
    Calls Try.prog 5 #[.agg #[.int .i64 k, .int .i64 ps, .string (B pl), .int .u64 pn, .int .u64 pv], .agg #[.int .i64 s, .string (B l), .int .u64 n, .int .u64 v]] w fun e w' => e = .returned (.bool true) ∧ Below w.heap.size w w' := by
  by_cases hl : l.length ≤ 100
  · by_cases hpl : pl.length ≤ 100
    · have M1 := fun W => Match_any k ps pl pn pv s l n v W (by unfold maxLen; omega) (by unfold maxLen; omega)
      have M2 := fun W => rMatch_any k ps pl pn pv s l n v W (by unfold maxLen; omega) (by unfold maxLen; omega)
      generalize matchB k ps pl pn pv s l n v = m at *
      go_enter Try.func5, Try.ntmps5
      go_wp2_with fail
      refine Calls.ext (awake_any _) fun u => ?_
      go_wp2_with fail
      refine Calls.ext (Few_any _ _ _ _ _) fun u2 => ?_
      go_wp2_with fail
      refine Calls.ext (Few_any _ _ _ _ _) fun u3 => ?_
      go_wp2
      (refine wp_region_ext_lit (by kernel_rfl) (by kernel_rfl) ?_; (repeat (any_goals (first | go_big_quiet_step ((first | (go_at_call 22; with_reducible first | exact Calls.ext_of' (M1 _) | exact Calls.ext_of (M1 _) | exact Calls.ext_of_same' (M1 _) | exact Calls.ext_of_same (M1 _)) | (go_at_call 23; with_reducible first | exact Calls.ext_of' (M2 _) | exact Calls.ext_of (M2 _) | exact Calls.ext_of_same' (M2 _) | exact Calls.ext_of_same (M2 _)))) | quiet_step ((first | (go_at_call 22; with_reducible first | exact Calls.ext_of' (M1 _) | exact Calls.ext_of (M1 _) | exact Calls.ext_of_same' (M1 _) | exact Calls.ext_of_same (M1 _)) | (go_at_call 23; with_reducible first | exact Calls.ext_of' (M2 _) | exact Calls.ext_of (M2 _) | exact Calls.ext_of_same' (M2 _) | exact Calls.ext_of_same (M2 _))))))); refine wpQuiet_nil ?_; rintro _ ⟨u4, rfl⟩)
      go_wp2
      go_ret
      exact ⟨ret_bool (by simp), by ((repeat' (with_reducible first | exact Below.refl _ _ | assumption | refine Below.drew ?_ | refine below_drewN ?_ _ | refine Below.setCell ?_ ?_ _ | refine Below.alloc ?_ ?_ _ | refine Below.ext ?_ ?_ _ | refine Below.trans ?_ (Below.mono ‹_› ?_))) <;> first | omega | (simp; done) | (simp; omega))⟩
    · go_enter Try.func5, Try.ntmps5
      go_wp2_with fail
      refine Calls.ext (awake_any _) fun u => ?_
      go_wp2_with fail
      refine Calls.ext (Few_any _ _ _ _ _) fun u2 => ?_
      go_wp2_with fail
      refine Calls.ext (Few_any _ _ _ _ _) fun u3 => ?_
      go_wp2_with fail
      refine Calls.ext (awake_any _) fun u4 => ?_
      go_wp2
      go_ret
      exact ⟨rfl, by ((repeat' (with_reducible first | exact Below.refl _ _ | assumption | refine Below.drew ?_ | refine below_drewN ?_ _ | refine Below.setCell ?_ ?_ _ | refine Below.alloc ?_ ?_ _ | refine Below.ext ?_ ?_ _ | refine Below.trans ?_ (Below.mono ‹_› ?_))) <;> first | omega | (simp; done) | (simp; omega))⟩
  · go_enter Try.func5, Try.ntmps5
    go_wp2_with fail
    refine Calls.ext (awake_any _) fun u => ?_
    go_wp2_with fail
    refine Calls.ext (Few_any _ _ _ _ _) fun u2 => ?_
    go_wp2_with fail
    refine Calls.ext (awake_any _) fun u4 => ?_
    go_wp2
    go_ret
    exact ⟨rfl, by ((repeat' (with_reducible first | exact Below.refl _ _ | assumption | refine Below.drew ?_ | refine below_drewN ?_ _ | refine Below.setCell ?_ ?_ _ | refine Below.alloc ?_ ?_ _ | refine Below.ext ?_ ?_ _ | refine Below.trans ?_ (Below.mono ‹_› ?_))) <;> first | omega | (simp; done) | (simp; omega))⟩
end Go.Proofs.Ythoickghfjgmmaa.Eid
