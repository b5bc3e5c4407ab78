/-
  The walk of gcm.Times, and reading what was written.
  Conditions: named at each.
-/
import Derived.Test.YtnnoimikoddbcaaGf4
namespace Go.Proofs.Ytnnoimikoddbcaa.Gf
open Go.ChangeShapes Go.WideShapes Go.ChangeAt Go.RowKit Go.Deep
open Go.Proofs.Ytnnoimikoddbcaa.Field (X mul one R)
/-- A polynomial's block. -/
def WR (e : Nat) : List UInt8 := (be8 (hiW e) ++ be8 (loW e)).map UInt8.ofNat
theorem WR_length (e : Nat) : (WR e).length = 16 := by simp [WR, be8]
theorem num_be8 (n : Nat) (t : List UInt8) (h : n < 18446744073709551616) : num ((be8 n).map UInt8.ofNat ++ t) 8 = n := by
  simp [num, be8, List.range_succ, byteAt]
  omega
theorem rd_WR {e : Nat} (he : e < 2 ^ 128) : rd (WR e) = e := by
  have h1 := num_be8 (hiW e) ((be8 (loW e)).map UInt8.ofNat) (hiW_lt he)
  have h2 := num_be8 (loW e) [] (loW_lt e)
  have h3 : (WR e).drop 8 = (be8 (loW e)).map UInt8.ofNat ++ [] := by
    rw [List.append_nil, WR, List.map_append, List.drop_left' (by simp [be8])]
  unfold rd
  rw [h3, h2, WR, List.map_append, h1]
  unfold hiW loW
  rw [Nat.shiftRight_eq_div_pow]
  omega
theorem be8_num (l : List UInt8) (h : l.length = 8) : (be8 (num l 8)).map UInt8.ofNat = l := by
  match l, h with
  | [a, b, c, d, e, f, g, i], _ =>
    have ha := a.toNat_lt; have hb := b.toNat_lt; have hc := c.toNat_lt; have hd := d.toNat_lt
    have he := e.toNat_lt; have hf := f.toNat_lt; have hg := g.toNat_lt; have hi := i.toNat_lt
    simp only [num, be8, List.range_succ, byteAt, List.range_zero, List.nil_append, List.cons_append, List.map_cons, List.map_nil, List.getD_cons_zero, List.getD_cons_succ]
    simp only [List.cons.injEq, and_true]
    refine ⟨?_, ?_, ?_, ?_, ?_, ?_, ?_, ?_⟩ <;> (apply UInt8.toNat_inj.1; rw [UInt8.toNat_ofNat']; omega)
theorem num_take (l : List UInt8) (n : Nat) : ∀ i, i ≤ n → num (l.take n) i = num l i
  | 0, _ => rfl
  | i + 1, h => by
    show num (l.take n) i * 256 + _ = num l i * 256 + _
    rw [num_take l n i (by omega)]
    congr 2
    simp [List.getD, show i < n by omega]
theorem WR_rd (l : List UInt8) (h : l.length = 16) : WR (rd l) = l := by
  unfold WR
  rw [rd_hi, rd_lo, List.map_append, be8_num (l.drop 8) (by simp; omega), ← num_take l 8 8 (Nat.le_refl _), be8_num (l.take 8) (by simp; omega), List.take_append_drop]
theorem WR_inj {a b : Nat} (ha : a < 2 ^ 128) (hb : b < 2 ^ 128) : WR a = WR b ↔ a = b := ⟨fun h => by rw [← rd_WR ha, h, rd_WR hb], fun h => by rw [h]⟩
theorem rd_inj {a b : List UInt8} (ha : a.length = 16) (hb : b.length = 16) : rd a = rd b ↔ a = b := ⟨fun h => by rw [← WR_rd a ha, h, WR_rd b hb], fun h => by rw [h]⟩
theorem Times_any (x y : List UInt8) (w : World) (hx : x.length = 16) (hy : y.length = 16) : Calls Try.prog 13 #[.string (B x), .string (B y)] w fun r w' => r = .returned (.string (B (WR (mul (rd x) (rd y))))) ∧ Below w.heap.size w w' := by
  have h1 := fun W0 => read_any x W0 hx
  have h2 := fun W0 => read_any y W0 hy
  have h3 := fun W0 => times_any (rd x) (rd y) W0 (rd_lt x) (rd_lt y)
  have h4 := fun W0 => write_any (mul (rd x) (rd y)) W0 (Field.mul_lt (rd_lt y))
  rw [show NB (be8 (hiW (mul (rd x) (rd y))) ++ be8 (loW (mul (rd x) (rd y)))) = B (WR (mul (rd x) (rd y))) from rfl] at h4
  generalize WR (mul (rd x) (rd y)) = res at *
  generalize el (mul (rd x) (rd y)) = m at *
  generalize el (rd x) = ex at *
  generalize el (rd y) = ey at *
  have H1 := Lib.hid h1
  have H2 := Lib.hid h2
  have H3 := Lib.hid h3
  have H4 := Lib.hid h4
  clear h1 h2 h3 h4
  go_enter Try.func13, Try.ntmps13
  go_wp2_with fail
  refine Calls.ext (H1.out _) fun u1 => ?_
  go_wp2_with fail
  refine Calls.ext (H2.out _) fun u2 => ?_
  go_wp2_with fail
  refine Calls.ext (H3.out _) fun u3 => ?_
  go_wp2_with fail
  refine Calls.ext (H4.out _) fun u4 => ?_
  go_wp2
  go_ret
  exact ⟨rfl, by ((repeat' (with_reducible first | exact Below.refl _ _ | assumption | refine Below.drew ?_ | refine below_drewN ?_ _ | refine Below.setCell ?_ ?_ _ | refine Below.alloc ?_ ?_ _ | refine Below.ext ?_ ?_ _ | refine Below.trans ?_ (Below.mono ‹_› ?_))) <;> first | omega | (simp; done) | (simp; omega))⟩
theorem Times_none (x y : List UInt8) (w : World) (h : ¬ x.length = 16 ∨ ¬ y.length = 16) : Calls Try.prog 13 #[.string (B x), .string (B y)] w fun r w' => r = .returned (.string (B [])) ∧ Below w.heap.size w w' := by
  have h : ¬ x.length = 16 ∨ x.length = 16 ∧ ¬ y.length = 16 := by omega
  rcases h with h | ⟨h0, h⟩
  all_goals
    go_enter Try.func13, Try.ntmps13
    go_wp2
    go_ret
    exact ⟨rfl, by ((repeat' (with_reducible first | exact Below.refl _ _ | assumption | refine Below.drew ?_ | refine below_drewN ?_ _ | refine Below.setCell ?_ ?_ _ | refine Below.alloc ?_ ?_ _ | refine Below.ext ?_ ?_ _ | refine Below.trans ?_ (Below.mono ‹_› ?_))) <;> first | omega | (simp; done) | (simp; omega))⟩
end Go.Proofs.Ytnnoimikoddbcaa.Gf
