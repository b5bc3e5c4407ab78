/-
  The walk of the reference's or.
  Conditions: not longer than a million bytes.
-/
import Derived.Test.YtnnoimikoddbcaaRef08f
import Derived.Test.YtnnoimikoddbcaaRef08e
import Derived.Laws.OwnMore
namespace Go.Proofs.Ytnnoimikoddbcaa.Ref08
open Go.ChangeShapes Go.WideShapes Go.ChangeAt Go.RowKit Go.Deep Go.Proofs.Ytnnoimikoddbcaa.Gf
open Go.Proofs.Ytnnoimikoddbcaa.Aes (byteF byteF_lt zeros zeros_length zeros_get)
def or2 (x y : List UInt8) : List UInt8 := (tab (orF x y) (min x.length y.length)).map UInt8.ofNat
theorem tab_same {f g : Nat → Nat} {n : Nat} (h : ∀ i, i < n → f i = g i) : tab f n = tab g n := List.map_congr_left fun i hi => h i (List.mem_range.1 hi)
theorem or2_take (x y : List UInt8) (h : y.length = 16) : or2 x y = orB (x.take 16) y := by
  unfold or2 orB
  rw [List.length_take, h, Nat.min_comm]
  congr 1
  refine tab_same fun i hi => ?_
  unfold orF
  congr 1
  simp only [byteF, List.getD, List.getElem?_take]
  rw [if_pos (by omega)]
theorem made_zeros (n : Nat) : madeCells #[.int .u8 0] n = nums .u8 (zeros n) :=
  Array.toList_inj.1 (by rw [toList_madeCells_one]; simp [nums, zeros])
set_option maxRecDepth 100000 in
theorem or_any (x y : List UInt8) (w : World) (hx : x.length ≤ 1000000) (_hy : y.length ≤ 1000000) : Calls Try.prog 49 #[.string (B x), .string (B y)] w fun e w' => e = .returned (.string (B (or2 x y))) ∧ Below w.heap.size w w' := by
  obtain ⟨n, hn⟩ : ∃ n, n = min x.length y.length := ⟨_, rfl⟩
  have hm : min (x.length : Int) (y.length : Int) = (n : Int) := by omega
  have hnx : n ≤ x.length := by omega
  have hny : n ≤ y.length := by omega
  have HR := Lib.hid (show or2 x y = (tab (orF x y) n).map UInt8.ofNat by rw [hn]; rfl)
  clear hn
  have hmk := run_make_row' (P := Try.prog) 24 5 (.int .u8 0) 1 Try.underlying24 Bld.infoByte rfl .i64 .i64 n (by omega) (by omega) w
  rw [made_zeros] at hmk
  go_enter Try.func49, Try.ntmps49
  go_wp2
  have hrow := NumsAt.new w 5 .u8 (zeros n)
  have hbel : Below w.heap.size w (w.alloc (.cells (nums .u8 (zeros n)) 5)) := by ((repeat' (with_reducible first | exact Below.refl _ _ | assumption | refine Below.drew ?_ | refine below_drewN ?_ _ | refine Below.setCell ?_ ?_ _ | refine Below.alloc ?_ ?_ _ | refine Below.ext ?_ ?_ _ | refine Below.trans ?_ (Below.mono ‹_› ?_))) <;> first | omega | (simp; done) | (simp; omega))
  clear hmk
  generalize w.alloc (.cells (nums .u8 (zeros n)) 5) = W1 at *
  go_loopw [7] (fun s7 wr => ∃ (i : Nat) (l : List Nat), i ≤ n ∧ s7 = .int .i64 i ∧ l = fillN (orF x y) (zeros n) i ∧ NumsAt wr w.heap.size 5 .u8 l ∧ Below w.heap.size w wr) (fun s _ => n - (intOf s).toNat)
  case atStart => exact ⟨0, zeros n, by omega, rfl, rfl, hrow, hbel⟩
  case round =>
    clear hrow hbel W1
    obtain ⟨i, l, hi, rfl, hl, hrow, hbel⟩ := hrel
    have hll : l.length = n := by rw [hl, fillN_length, zeros_length]
    have HL := Lib.hid hl
    have HBL := Lib.hid hbel
    clear hl hbel
    by_cases hend : i = n
    · have hlt : ¬ (i : Int) < (n : Int) := by omega
      have hst := string_of (P := Try.prog) wr 24 9 5 ⟨w.heap.size, 0, none⟩ n n l Try.underlying24 Try.underlying5 Try.underlying9 hll (fun j hj => by
        have e1 : (⟨w.heap.size, 0, none⟩ : Addr).add j = ⟨w.heap.size, j, none⟩ := by simp [Addr.add]; omega
        rw [e1]; exact hrow.cell j (by omega))
      have hres : NB l = B (or2 x y) := by
        rw [HL.out, hend, fillN_full _ (zeros_length n), HR.out]; rfl
      rw [hres] at hst
      clear hend hres
      have HE : ∃ r, r = or2 x y := ⟨_, rfl⟩
      obtain ⟨res, hres⟩ := HE
      have HRES := Lib.hid hres
      rw [← hres] at hst
      clear hres
      go_wp2
      go_ret
      exact ⟨by rw [← HRES.out]; rfl, HBL.out⟩
    · have hlt : (i : Int) < (n : Int) := by omega
      have hlx : (i : Int) < (x.length : Int) := by omega
      have hly : (i : Int) < (y.length : Int) := by omega
      have hlx' : i < x.length := by omega
      have hly' : i < y.length := by omega
      have hc := hrow.cell i (by omega)
      have hf := hrow.frozen i
      have hbl := hrow.lt
      have hxv : ((x[i].toNat : Nat) : Int) = ((byteF x i : Nat) : Int) := by simp [byteF, List.getD, hlx']
      have hyv : ((y[i].toNat : Nat) : Int) = ((byteF y i : Nat) : Int) := by simp [byteF, List.getD, hly']
      have hx := u8_xor_nat _ _ (byteF_lt x i) (byteF_lt y i)
      have HX := Lib.hid (show bits .xor .u8 ((x[i].toNat : Nat) : Int) ((y[i].toNat : Nat) : Int) = ((orF x y i : Nat) : Int) by rw [hxv, hyv]; exact hx)
      have HROW := Lib.hid hrow
      clear hxv hyv hx hrow
      go_wp2
      go_region
      go_wp2
      go_round
      case rel =>
        refine ⟨i + 1, l.set i (orF x y i), by omega, by go_num, by rw [HL.out]; rfl, ?_, ?_⟩
        · rw [HX.out]
          exact HROW.out.drew.set i _
        · exact Below.setCell HBL.out.drew (Nat.le_refl _) _
      case measure => simp [intOf]; omega
end Go.Proofs.Ytnnoimikoddbcaa.Ref08
