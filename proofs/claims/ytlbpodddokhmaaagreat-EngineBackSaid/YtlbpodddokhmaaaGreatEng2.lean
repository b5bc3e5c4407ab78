/-
  The ideal engine: fresh, sign, seal, and the engine's Sign, Seal over it.
  Conditions: an ideal engine; what it may sign and seal.
-/
import Derived.Test.YtlbpodddokhmaaaGreatEng
import Derived.Test.YtlbpodddokhmaaaGreatNums
import Derived.Deep.AppendLies
import Derived.OwnWalk
import Derived.Laws.OwnMore
import Derived.BigRegion
namespace Go.Proofs.YtlbpodddokhmaaaGreat.Eng
open Go.ChangeShapes Go.WideShapes Go.ChangeAt Go.RowKit Go.Deep Go.Great
theorem infoU8 : (Tryz.prog.info? 5).map (fun i => (i.zero, i.size, i.bytes)) = some (some (.int .u8 0), 1, 1) := by kernel_rfl
def zeros (n : Nat) : List Nat := List.replicate n 0
theorem zeros_length (n : Nat) : (zeros n).length = n := List.length_replicate
theorem made_zeros (k : IntKind) (n : Nat) : madeCells #[.int k 0] n = nums k (zeros n) :=
  Array.toList_inj.1 (by rw [toList_madeCells_one]; simp [nums, zeros])
/-- The bytes of the entry number id. -/
def freshF (id i : Nat) : Nat := id / 2 ^ (8 * (7 - i % 8)) % 256
def freshB (id n : Nat) : List UInt8 := (tab (freshF id) n).map UInt8.ofNat
theorem freshB_length (id n : Nat) : (freshB id n).length = n := by rw [freshB, List.length_map, tab_length]
theorem fresh_ne {i j n : Nat} (hn : 8 ≤ n) (hi : i < 256) (hj : j < 256) (h : i ≠ j) : freshB i n ≠ freshB j n := by
  intro e
  apply h
  have h1 := congrArg (fun l : List UInt8 => (l.getD 7 0).toNat) e
  have h2 : ∀ id, id < 256 → ((freshB id n).getD 7 0).toNat = id := fun id hid => by
    have h3 := tab_get (freshF id) n 7 (by omega)
    unfold freshB
    simp only [List.getD, List.getElem?_map] at h3 ⊢
    rw [List.getElem?_eq_getElem (by rw [tab_length]; omega)] at h3 ⊢
    simp only [Option.getD_some, Option.map_some] at h3 ⊢
    rw [h3]
    unfold freshF
    simp
    omega
  simp only [h2 i hi, h2 j hj] at h1
  exact h1
set_option maxRecDepth 100000 in
theorem fresh_any (ib l c n : Nat) (p : Option Addr) (w : World) (h : w.cell? ⟨ib, 0, none⟩ = some (.slice p l c)) (hl : l ≤ 1000) (hn : n ≤ 1000) : Calls Tryz.prog 156 #[.pointer (some ⟨ib, 0, none⟩), .int .i64 n] w fun e w' => e = .returned (.string (B (freshB (l + 1) n))) ∧ Below w.heap.size w w' := by
  have hmk := run_make_row' (P := Tryz.prog) 73 5 (.int .u8 0) 1 Tryz.underlying73 infoU8 rfl .i64 .i64 n (by omega) (by omega) w
  rw [made_zeros] at hmk
  have hc : (w.alloc (.cells (nums .u8 (zeros n)) 5)).cell? ⟨ib, 0, none⟩ = some (.slice p l c) := by
    rw [World.cell?_alloc_lt _ _ _ (World.block_lt_of_cell? w ⟨ib, 0, none⟩ h)]; exact h
  have HR := Lib.hid (show freshB (l + 1) n = (tab (freshF (l + 1)) n).map UInt8.ofNat from rfl)
  obtain ⟨id, hid⟩ : ∃ id, l + 1 = id := ⟨_, rfl⟩
  have hidi : (l : Int) + 1 = (id : Int) := by omega
  have hidl : id ≤ 1001 := by omega
  rw [hid] at HR ⊢
  have HF := Lib.hid (show ∀ i, freshF id i = id / 2 ^ (8 * (7 - i % 8)) % 256 from fun _ => rfl)
  generalize freshB id n = res at *
  generalize freshF id = ff at *
  have hwi : IntKind.u64.wrap (id : Int) = (id : Int) := by simp [IntKind.wrap, IntKind.bits, IntKind.signed]; omega
  clear hid
  go_enter Tryz.func156, Tryz.ntmps156
  go_wp2
  have hrow := NumsAt.new w 5 .u8 (zeros n)
  have hbel : Below w.heap.size w (w.alloc (.cells (nums .u8 (zeros n)) 5)) := by ((repeat' (with_reducible first | exact Below.refl _ _ | assumption | refine Below.drew ?_ | refine below_drewN ?_ _ | refine Below.setCell ?_ ?_ _ | refine Below.alloc ?_ ?_ _ | refine Below.ext ?_ ?_ _ | refine Below.trans ?_ (Below.mono ‹_› ?_))) <;> first | omega | (simp; done) | (simp; omega))
  clear hmk hc h hwi hidi
  generalize w.alloc (.cells (nums .u8 (zeros n)) 5) = W1 at *
  go_loopw [19] (fun s19 wr => ∃ (i : Nat) (l : List Nat), i ≤ n ∧ s19 = .int .i64 i ∧ l = fillN ff (zeros n) i ∧ NumsAt wr w.heap.size 5 .u8 l ∧ Below w.heap.size w wr) (fun s _ => n - (intOf s).toNat)
  case atStart => exact ⟨0, zeros n, by omega, rfl, rfl, hrow, hbel⟩
  case round =>
    clear hrow hbel W1
    obtain ⟨i, l, hi, rfl, hl, hrow, hbel⟩ := hrel
    have hll : l.length = n := by rw [hl, fillN_length, zeros_length]
    have HL := Lib.hid hl
    have HBL := Lib.hid hbel
    by_cases hend : i = n
    · have hlt : ¬ (i : Int) < (n : Int) := by omega
      have hst := string_of (P := Tryz.prog) wr 73 9 5 ⟨w.heap.size, 0, none⟩ n n l Tryz.underlying73 Tryz.underlying5 Tryz.underlying9 hll (fun j hj => by
        have e1 : (⟨w.heap.size, 0, none⟩ : Addr).add j = ⟨w.heap.size, j, none⟩ := by simp [Addr.add]; omega
        rw [e1]; exact hrow.cell j (by omega))
      have hres : NB l = B res := by
        rw [HL.out, hend, fillN_full _ (zeros_length n), HR.out]; rfl
      rw [hres] at hst
      clear hend hres hl hbel hrow
      go_wp2
      go_ret
      exact ⟨rfl, HBL.out⟩
    · have hlt : (i : Int) < (n : Int) := by omega
      have hcl := hrow.cell i (by omega)
      have hfz := hrow.frozen i
      have HROW := Lib.hid hrow
      obtain ⟨r, hr⟩ : ∃ r, i % 8 = r := ⟨_, rfl⟩
      have hr8 : r < 8 := by omega
      obtain ⟨s, hs⟩ : ∃ s, 7 - r = s := ⟨_, rfl⟩
      have hsub : (7 : Int) - (r : Int) = (s : Int) := by omega
      obtain ⟨m, hm⟩ : ∃ m, 8 * s = m := ⟨_, rfl⟩
      have hmul : (8 : Int) * (s : Int) = (m : Int) := by omega
      have hm64 : (m : Int) < 64 := by omega
      have hm0 : (0 : Int) ≤ (m : Int) := by omega
      obtain ⟨y, hy⟩ : ∃ y, ff i = y := ⟨_, rfl⟩
      have hvi : (id : Int) / 2 ^ m % 256 = (y : Int) := by rw [← hy, HF.out, hr, hs, hm]; simp
      have hvw : IntKind.u8.wrap ((id : Int) / 2 ^ m) = (y : Int) := by rw [← hvi]; simp [IntKind.wrap, IntKind.bits, IntKind.signed]
      have htm : (i : Int).tmod 8 = (r : Int) := by rw [Int.tmod_eq_emod_of_nonneg (Int.natCast_nonneg _)]; omega
      have HY := Lib.hid hy
      have HR2 := Lib.hid (hrow.set i y)
      have HB2 := Lib.hid (Below.setCell hbel (show w.heap.size ≤ (⟨w.heap.size, i, none⟩ : Addr).block from Nat.le_refl _) (.int .u8 ((y : Nat) : Int)))
      have hs7 : s ≤ 7 := by omega
      clear hl hrow hbel hr hs hm hy
      go_wp2
      go_round
      case rel => exact ⟨i + 1, l.set i y, by omega, by go_num, by rw [fillN, ← HL.out, HY.out], HR2.out, HB2.out⟩
      case measure => simp [intOf]; omega
end Go.Proofs.YtlbpodddokhmaaaGreat.Eng
