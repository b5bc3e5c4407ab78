/-
  The reference for roots: power, walked.
  Conditions: the numbers are words.
-/
import Derived.Test.YthoickghfjgmmaaRef05
namespace Go.Proofs.Ythoickghfjgmmaa.Ref05
open Go.ChangeShapes Go.WideShapes Go.ChangeAt Go.RowKit Go.Shelf Go.Deep
open Go.Proofs.Ythoickghfjgmmaa.Root (W)
theorem WV : V * V = W := by decide
theorem quo_lt {r : Nat} (hr : r < W) : r / V < V := (Nat.div_lt_iff_lt_mul V_pos).2 (by rw [WV]; exact hr)
/-- Three digits, the lowest first. -/
def three (a b c : Nat) : Nat → Nat := fun j => if j = 0 then a else if j = 1 then b else if j = 2 then c else 0
theorem three_lt {a b c : Nat} (h1 : a < V) (h2 : b < V) (h3 : c < V) : ∀ j, three a b c j < V := fun j => by
  unfold three
  split
  · exact h1
  · split
    · exact h2
    · split
      · exact h3
      · exact V_pos
theorem three_val (r c : Nat) : val (three (r % V) (r / V) c) 3 = c * W + r := by
  have hd := Nat.div_add_mod r V
  simp [val, three]
  rw [← WV, Nat.pow_succ, Nat.pow_one, Nat.mul_comm (r / V) V]
  omega
/-- A power: the third, or the second. -/
def pw (cube : Bool) (x : Nat) : Nat := if cube then x * x * x else x * x
theorem pw_false (x : Nat) : pw false x = x * x := rfl
theorem pw_true (x : Nat) : pw true x = x * x * x := rfl
/-- What 'power' answers. -/
def PowPost (cube : Bool) (x : Nat) (w : World) (e : Ending) (w' : World) : Prop :=
  ∃ (c : Nat → Nat) (b l : Nat), e = .returned (.slice (some ⟨b, 0, none⟩) l l) ∧ l = (if cube then 9 else 6) ∧ w'.rowIs b 28 l (fun j => .int .u64 (c j)) ∧ (∀ j, c j < V) ∧ val c l = pw cube x ∧ Below w.heap.size w w'
theorem three_row (r whole : Nat) (w : World) : (w.alloc (.cells #[.int .u64 ((r : Int) % 4294967296), .int .u64 ((r : Int) / 4294967296), .int .u64 whole] 28)).rowIs w.heap.size 28 3 (fun j => .int .u64 (three (r % V) (r / V) whole j)) :=
  World.rowIs_alloc w #[.int .u64 ((r : Int) % 4294967296), .int .u64 ((r : Int) / 4294967296), .int .u64 whole] _ _ (fun i h => by
      match i, h with
      | 0, _ => simp [three, V]
      | 1, _ => simp [three, V]
      | 2, _ => simp [three])
theorem quo_keep {r : Nat} (h : r / V < V) : IntKind.u64.wrap ((r : Int) / 4294967296) = (r : Int) / 4294967296 := by
  have := quo_wrap h
  simpa [V] using this
theorem power_any (whole r : Nat) (cube : Bool) (w : World) (hw : whole < V) (hr : r < W) :
    Calls Try.prog 51 #[.int .u64 whole, .int .u64 r, .bool cube] w (PowPost cube (whole * W + r) w) := by
  have hq : r / V < V := quo_lt hr
  have hx := three_row r whole
  have hxV := three_lt (Nat.mod_lt r V_pos) hq hw
  have hwrap := quo_keep hq
  have H3 : val (three (r % V) (r / V) whole) 3 = whole * W + r := three_val r whole
  generalize whole * W + r = X at *
  generalize three (r % V) (r / V) whole = f at *
  have HX := Lib.hid hx
  have HV := Lib.hid hxV
  clear hx hxV hq hw hr
  have H3' := Lib.hid H3
  clear H3
  go_enter Try.func51, Try.ntmps51
  go_wp2_with fail
  refine (product_any f f 3 3 _ _ 3 3 _ (HX.out w) (HX.out w) (by omega) (by omega) HV.out HV.out).mono ?_
  rintro e w1 hpost
  obtain ⟨c, rfl, hrow, hWc, hval, hbel⟩ := hpost
  have hb1 : Below w.heap.size w w1 := ((Below.refl _ _).alloc (Nat.le_refl _) _).trans (hbel.mono (by simp))
  have hxr := (HX.out w).of_block (hbel.block _ (by simp))
  rw [H3'.out] at hval
  have HXR := Lib.hid hxr
  have HR := Lib.hid hrow
  have HVAL := Lib.hid hval
  have HWC := Lib.hid hWc
  clear hxr hrow hval hWc
  cases cube
  · go_wp2
    go_ret
    exact ⟨c, w.heap.size + 1, 6, rfl, rfl, by simpa using HR.out, HWC.out, by rw [HVAL.out, pw_false], hb1⟩
  · have hrow' : w1.rowIs (w.heap.size + 1) 28 6 (fun j => .int .u64 (c j)) := by simpa using HR.out
    have HR2 := Lib.hid hrow'
    clear hrow'
    go_wp2_with fail
    refine (product_any c f 6 3 _ _ 6 3 _ HR2.out HXR.out (by omega) (by omega) HWC.out HV.out).mono ?_
    rintro e w2 hpost
    obtain ⟨c2, rfl, hrow, hWc, hval, hbel2⟩ := hpost
    have hb2 : Below w.heap.size w w2 := hb1.trans (hbel2.mono hb1.size)
    rw [H3'.out, HVAL.out] at hval
    have HR3 := Lib.hid hrow
    have HVAL2 := Lib.hid hval
    have HWC2 := Lib.hid hWc
    clear hrow hval hWc
    go_wp2
    go_ret
    exact ⟨c2, w1.heap.size, 9, rfl, rfl, by simpa using HR3.out, HWC2.out, by rw [HVAL2.out, pw_true], hb2⟩
end Go.Proofs.Ythoickghfjgmmaa.Ref05
