/-
  The reference for roots: IsRoot, walked; and the check that the laws of sha begin with.
  Conditions: the numbers are words.
-/
import Derived.Test.YthoickghfjgmmaaRef05b
namespace Go.Proofs.Ythoickghfjgmmaa.Ref05
open Go.ChangeShapes Go.WideShapes Go.ChangeAt Go.RowKit Go.Shelf Go.Deep
open Go.Proofs.Ythoickghfjgmmaa.Root (W)
/-- A number with its bits behind the point. -/
def pos (wh r : Nat) : Nat := wh * W + r
theorem power_pos (wh r : Nat) (cube : Bool) (w : World) (hw : wh < V) (hr : r < W) :
    Calls Try.prog 51 #[.int .u64 wh, .int .u64 r, .bool cube] w (PowPost cube (pos wh r) w) := power_any wh r cube w hw hr
/-- A root's whole part: the greatest number below k whose power is not above p. -/
def whole (p : Nat) (cube : Bool) : Nat → Nat
  | 0 => 0
  | k + 1 => if pw cube k ≤ p then k else whole p cube k
theorem whole_le (p : Nat) (cube : Bool) : ∀ k, whole p cube k ≤ k
  | 0 => Nat.le_refl _
  | k + 1 => by
    unfold whole
    have := whole_le p cube k
    split <;> omega
theorem top_wrap {r : Nat} (h : r + 1 = W) : IntKind.u64.wrap ((r : Int) + 1) = 0 := by
  have : (r : Int) + 1 = 18446744073709551616 := by unfold Root.W at h; omega
  rw [this]
  rfl
theorem small_wrap {n : Nat} (h : n < V) : IntKind.u64.wrap ((n : Int) + 1) = ((n + 1 : Nat) : Int) := Root.u64_wrap (n + 1) (by unfold Root.W; unfold V at h; omega)
theorem next_wrap {n : Nat} (h : n + 1 < W) : IntKind.u64.wrap ((n : Int) + 1) = ((n + 1 : Nat) : Int) := Root.u64_wrap (n + 1) h
theorem next_top {r wh : Nat} (h : r + 1 = W) : pos (wh + 1) 0 = pos wh r + 1 := by unfold pos; rw [Nat.succ_mul]; omega
theorem next_pos {r wh : Nat} : pos wh (r + 1) = pos wh r + 1 := by unfold pos; rw [Nat.add_assoc]
/-- The test of a power. -/
def test (p : Nat) (cube : Bool) (x : Nat) : Bool := decide (pw cube x ≤ p * pw cube W)
/-- Are these the first bits behind the point of p's root, its whole part given? -/
def isRootW (wh p r : Nat) (cube : Bool) : Bool := test p cube (pos wh r) && !test p cube (pos wh r + 1)
def isRoot (p r : Nat) (cube : Bool) : Bool := isRootW (whole p cube 40) p r cube
theorem isRoot_eq (p r : Nat) (cube : Bool) : isRoot p r cube = isRootW (whole p cube 40) p r cube := rfl
theorem isRootW_false {wh p r : Nat} {cube : Bool} (h : test p cube (pos wh r) = false) : isRootW wh p r cube = false := by unfold isRootW; rw [h]; rfl
theorem isRootW_true {wh p r : Nat} {cube : Bool} (h : test p cube (pos wh r) = true) : isRootW wh p r cube = !test p cube (pos wh r + 1) := by unfold isRootW; rw [h]; rfl
theorem V4 : V ^ 4 = pw false W := by decide
theorem V6 : V ^ 6 = pw true W := by decide
theorem test_false {c : Nat → Nat} {p x : Nat} (h : val c 6 = pw false x) : atMostB c 6 p 4 = test p false x := by unfold atMostB test; rw [h, V4]
theorem test_true {c : Nat → Nat} {p x : Nat} (h : val c 9 = pw true x) : atMostB c 9 p 6 = test p true x := by unfold atMostB test; rw [h, V6]
theorem pow_false {x : Nat} {w w' : World} {e : Ending} (h : PowPost false x w e w') : ∃ (c : Nat → Nat) (b : Nat), e = .returned (.slice (some ⟨b, 0, none⟩) 6 6) ∧ w'.rowIs b 28 6 (fun j => .int .u64 (c j)) ∧ (∀ j, c j < V) ∧ (∀ p, atMostB c 6 p 4 = test p false x) ∧ Below w.heap.size w w' := by
  obtain ⟨c, b, l, rfl, rfl, h1, h2, h3, h4⟩ := h
  exact ⟨c, b, rfl, h1, h2, fun p => test_false h3, h4⟩
theorem pow_true {x : Nat} {w w' : World} {e : Ending} (h : PowPost true x w e w') : ∃ (c : Nat → Nat) (b : Nat), e = .returned (.slice (some ⟨b, 0, none⟩) 9 9) ∧ w'.rowIs b 28 9 (fun j => .int .u64 (c j)) ∧ (∀ j, c j < V) ∧ (∀ p, atMostB c 9 p 6 = test p true x) ∧ Below w.heap.size w w' := by
  obtain ⟨c, b, l, rfl, rfl, h1, h2, h3, h4⟩ := h
  exact ⟨c, b, rfl, h1, h2, fun p => test_true h3, h4⟩
set_option maxRecDepth 100000 in
theorem IsRoot_any (p r : Nat) (cube : Bool) (w : World) (hp : p < V) (hr : r < W) :
    Calls Try.prog 25 #[.int .u64 p, .int .u64 r, .bool cube] w fun e w' => e = .returned (.bool (isRoot p r cube)) ∧ Below w.heap.size w w' := by
  have HP := Lib.hid hp
  have HRR := Lib.hid hr
  clear hp hr
  go_enter Try.func25, Try.ntmps25
  go_wp2
  go_loop [7, 8] (fun s7 s8 => ∃ k : Nat, 1 ≤ k ∧ k ≤ 40 ∧ s8 = .int .u64 k ∧ s7 = .int .u64 (whole p cube k)) (fun _ s => 40 - (intOf s).toNat)
  case atStart => exact ⟨1, Nat.le_refl _, by omega, rfl, by unfold whole whole; split <;> rfl⟩
  case round =>
    obtain ⟨k, hk1, hk, rfl, rfl⟩ := hrel
    have hwl := whole_le p cube k
    by_cases h40 : k < 40
    · have hs : whole p cube (k + 1) = if pw cube k ≤ p then k else whole p cube k := rfl
      have h2 : k * k ≤ 39 * 39 := Nat.mul_le_mul (by omega) (by omega)
      have h3 : k * k * k ≤ 39 * 39 * 39 := Nat.mul_le_mul h2 (by omega)
      have e2 : IntKind.u64.wrap ((k : Int) * (k : Int)) = ((mulN k k : Nat) : Int) := by
        rw [← Int.natCast_mul]; exact Root.u64_wrap (k * k) (by unfold Root.W; omega)
      have e3 : IntKind.u64.wrap (((mulN k k : Nat) : Int) * (k : Int)) = ((mulN (mulN k k) k : Nat) : Int) := by
        rw [← Int.natCast_mul]; exact Root.u64_wrap (k * k * k) (by unfold Root.W; omega)
      have HS := Lib.hid hs
      clear hs h2 h3
      generalize hW : whole p cube k = wk at *
      clear hW
      cases cube
      · by_cases hle : mulN k k ≤ p
        · have e : whole p false (k + 1) = k := by rw [HS.out]; exact if_pos hle
          have HE := Lib.hid e
          clear e
          go_wp2
          go_round
          case rel => exact ⟨k + 1, by omega, by omega, by go_num, by rw [HE.out]⟩
          case measure => simp [intOf]; omega
        · have e : whole p false (k + 1) = wk := by rw [HS.out]; exact if_neg hle
          have HE := Lib.hid e
          clear e
          go_wp2
          go_round
          case rel => exact ⟨k + 1, by omega, by omega, by go_num, by rw [HE.out]⟩
          case measure => simp [intOf]; omega
      · by_cases hle : mulN (mulN k k) k ≤ p
        · have e : whole p true (k + 1) = k := by rw [HS.out]; exact if_pos hle
          have HE := Lib.hid e
          clear e
          go_wp2
          go_round
          case rel => exact ⟨k + 1, by omega, by omega, by go_num, by rw [HE.out]⟩
          case measure => simp [intOf]; omega
        · have e : whole p true (k + 1) = wk := by rw [HS.out]; exact if_neg hle
          have HE := Lib.hid e
          clear e
          go_wp2
          go_round
          case rel => exact ⟨k + 1, by omega, by omega, by go_num, by rw [HE.out]⟩
          case measure => simp [intOf]; omega
    · obtain rfl : k = 40 := by omega
      have hwl40 : whole p cube 40 < V := Nat.lt_of_le_of_lt hwl (by decide)
      have hlast := isRoot_eq p r cube
      have hwle := hwl
      generalize whole p cube 40 = wh at *
      clear hwl hk hk1 h40
      have HWL := Lib.hid hwl40
      have HLA := Lib.hid hlast
      have HW40 := Lib.hid hwle
      clear hwl40 hlast hwle
      have hP1 := fun W0 => power_pos wh r cube W0 HWL.out HRR.out
      have HP1 := Lib.hid hP1
      clear hP1
      cases cube
      · go_wp2_with fail
        refine (HP1.out _).mono ?_
        rintro e w1 hpost
        obtain ⟨c, b, rfl, hrow, hWc, htest, hb1⟩ := pow_false hpost
        have HR := Lib.hid hrow
        have HT := Lib.hid (htest p)
        have HWC := Lib.hid hWc
        clear hrow htest hWc
        go_wp2_with fail
        refine (atMost_any c 6 p 4 b 6 _ HR.out (by omega) HWC.out HP.out (by omega)).mono ?_
        rintro e w2 ⟨rfl, rfl⟩
        rw [HT.out]
        cases ht : test p false (pos wh r)
        · have e1 : isRoot p r false = false := HLA.out.trans (isRootW_false ht)
          have HE := Lib.hid e1
          clear ht e1
          go_wp2
          go_ret
          exact ⟨by rw [HE.out]; rfl, hb1⟩
        · have e1 : isRoot p r false = !test p false (pos wh r + 1) := HLA.out.trans (isRootW_true ht)
          have HE := Lib.hid e1
          clear ht e1
          by_cases hr1 : r + 1 = W
          · have q1 : IntKind.u64.wrap ((r : Int) + 1) = 0 := top_wrap hr1
            have q2 : IntKind.u64.wrap ((wh : Int) + 1) = ((wh + 1 : Nat) : Int) := small_wrap HWL.out
            have q3 := next_top (wh := wh) hr1
            have hP2 := fun W0 => power_pos (wh + 1) 0 false W0 (Nat.lt_of_le_of_lt (Nat.succ_le_succ HW40.out) (by decide)) Root.W_pos
            rw [q3] at hP2
            have HP2 := Lib.hid hP2
            clear hr1 q3 hP2
            generalize wh + 1 = wh1 at *
            generalize pos wh r + 1 = X1 at *
            go_wp2_with fail
            refine (HP2.out _).mono ?_
            rintro e w3 hpost
            obtain ⟨c, b, rfl, hrow, hWc, htest, hb2⟩ := pow_false hpost
            have HR2 := Lib.hid hrow
            have HT2 := Lib.hid (htest p)
            have HWC2 := Lib.hid hWc
            clear hrow htest hWc
            have hb3 := hb1.trans (hb2.mono hb1.size)
            go_wp2_with fail
            refine (atMost_any c 6 p 4 b 6 _ HR2.out (by omega) HWC2.out HP.out (by omega)).mono ?_
            rintro e w4 ⟨rfl, rfl⟩
            go_wp2
            go_ret
            exact ⟨by rw [HE.out, ← HT2.out]; rfl, hb3⟩
          · have q0 : r + 1 < W := Nat.lt_of_le_of_ne HRR.out hr1
            have q1 : IntKind.u64.wrap ((r : Int) + 1) = ((r + 1 : Nat) : Int) := next_wrap q0
            have q2 : (((r + 1 : Nat) : Int) == 0) = false := by rw [beq_eq_false_iff_ne]; omega
            have hP2 := fun W0 => power_pos wh (r + 1) false W0 HWL.out q0
            rw [next_pos] at hP2
            have HP2 := Lib.hid hP2
            clear hr1 q0 hP2
            generalize pos wh r + 1 = X1 at *
            generalize r + 1 = r1 at *
            go_wp2_with fail
            refine (HP2.out _).mono ?_
            rintro e w3 hpost
            obtain ⟨c, b, rfl, hrow, hWc, htest, hb2⟩ := pow_false hpost
            have HR2 := Lib.hid hrow
            have HT2 := Lib.hid (htest p)
            have HWC2 := Lib.hid hWc
            clear hrow htest hWc
            have hb3 := hb1.trans (hb2.mono hb1.size)
            go_wp2_with fail
            refine (atMost_any c 6 p 4 b 6 _ HR2.out (by omega) HWC2.out HP.out (by omega)).mono ?_
            rintro e w4 ⟨rfl, rfl⟩
            go_wp2
            go_ret
            exact ⟨by rw [HE.out, ← HT2.out]; rfl, hb3⟩
      · go_wp2_with fail
        refine (HP1.out _).mono ?_
        rintro e w1 hpost
        obtain ⟨c, b, rfl, hrow, hWc, htest, hb1⟩ := pow_true hpost
        have HR := Lib.hid hrow
        have HT := Lib.hid (htest p)
        have HWC := Lib.hid hWc
        clear hrow htest hWc
        go_wp2_with fail
        refine (atMost_any c 9 p 6 b 9 _ HR.out (by omega) HWC.out HP.out (by omega)).mono ?_
        rintro e w2 ⟨rfl, rfl⟩
        rw [HT.out]
        cases ht : test p true (pos wh r)
        · have e1 : isRoot p r true = false := HLA.out.trans (isRootW_false ht)
          have HE := Lib.hid e1
          clear ht e1
          go_wp2
          go_ret
          exact ⟨by rw [HE.out]; rfl, hb1⟩
        · have e1 : isRoot p r true = !test p true (pos wh r + 1) := HLA.out.trans (isRootW_true ht)
          have HE := Lib.hid e1
          clear ht e1
          by_cases hr1 : r + 1 = W
          · have q1 : IntKind.u64.wrap ((r : Int) + 1) = 0 := top_wrap hr1
            have q2 : IntKind.u64.wrap ((wh : Int) + 1) = ((wh + 1 : Nat) : Int) := small_wrap HWL.out
            have q3 := next_top (wh := wh) hr1
            have hP2 := fun W0 => power_pos (wh + 1) 0 true W0 (Nat.lt_of_le_of_lt (Nat.succ_le_succ HW40.out) (by decide)) Root.W_pos
            rw [q3] at hP2
            have HP2 := Lib.hid hP2
            clear hr1 q3 hP2
            generalize wh + 1 = wh1 at *
            generalize pos wh r + 1 = X1 at *
            go_wp2_with fail
            refine (HP2.out _).mono ?_
            rintro e w3 hpost
            obtain ⟨c, b, rfl, hrow, hWc, htest, hb2⟩ := pow_true hpost
            have HR2 := Lib.hid hrow
            have HT2 := Lib.hid (htest p)
            have HWC2 := Lib.hid hWc
            clear hrow htest hWc
            have hb3 := hb1.trans (hb2.mono hb1.size)
            go_wp2_with fail
            refine (atMost_any c 9 p 6 b 9 _ HR2.out (by omega) HWC2.out HP.out (by omega)).mono ?_
            rintro e w4 ⟨rfl, rfl⟩
            go_wp2
            go_ret
            exact ⟨by rw [HE.out, ← HT2.out]; rfl, hb3⟩
          · have q0 : r + 1 < W := Nat.lt_of_le_of_ne HRR.out hr1
            have q1 : IntKind.u64.wrap ((r : Int) + 1) = ((r + 1 : Nat) : Int) := next_wrap q0
            have q2 : (((r + 1 : Nat) : Int) == 0) = false := by rw [beq_eq_false_iff_ne]; omega
            have hP2 := fun W0 => power_pos wh (r + 1) true W0 HWL.out q0
            rw [next_pos] at hP2
            have HP2 := Lib.hid hP2
            clear hr1 q0 hP2
            generalize pos wh r + 1 = X1 at *
            generalize r + 1 = r1 at *
            go_wp2_with fail
            refine (HP2.out _).mono ?_
            rintro e w3 hpost
            obtain ⟨c, b, rfl, hrow, hWc, htest, hb2⟩ := pow_true hpost
            have HR2 := Lib.hid hrow
            have HT2 := Lib.hid (htest p)
            have HWC2 := Lib.hid hWc
            clear hrow htest hWc
            have hb3 := hb1.trans (hb2.mono hb1.size)
            go_wp2_with fail
            refine (atMost_any c 9 p 6 b 9 _ HR2.out (by omega) HWC2.out HP.out (by omega)).mono ?_
            rintro e w4 ⟨rfl, rfl⟩
            go_wp2
            go_ret
            exact ⟨by rw [HE.out, ← HT2.out]; rfl, hb3⟩
theorem Sizes_384 (w : World) : Calls Try.prog 49 #[.int .i64 384] w fun e w' => e = .returned (.int .i64 48) ∧ w = w' := by
  go_enter Try.func49, Try.ntmps49
  go_wp2
  go_ret
  exact ⟨rfl, rfl⟩
theorem root2 : Root.loW (Root.most (Root.under 2 true) 69 0) = 4794697086780616226 := by decide +kernel
theorem awake_any (w : World) : Calls Try.prog 24 #[] w fun e w' => e = .returned (.bool true) ∧ Below w.heap.size w w' := by
  have hR := fun W0 => Root.Root_any 2 true W0 (by decide) (by omega) (by omega)
  rw [root2] at hR
  go_enter Try.func24, Try.ntmps24
  go_wp2_with fail
  refine (Sizes_384 _).mono ?_
  rintro e w1 ⟨rfl, rfl⟩
  go_wp2_with fail
  refine (hR _).mono ?_
  rintro e w1 ⟨rfl, hb⟩
  go_wp2
  go_ret
  exact ⟨rfl, hb⟩
end Go.Proofs.Ythoickghfjgmmaa.Ref05
