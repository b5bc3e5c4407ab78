/-
  SHA-2: the package's numbers as they lie in memory; the walks of number, Block, Size.
  Conditions: named at each.
-/
import Derived.Test.YtlbpodddokhmaaaGreatBw
import Derived.Laws.OwnMore
namespace Go.Proofs.YtlbpodddokhmaaaGreat.Sha
open Go.ChangeShapes Go.WideShapes Go.ChangeAt Go.RowKit Go.Deep
/-- The package's tables, whatever they hold. -/
structure Tabs where
  rounds : List Nat
  firsts : List Nat
  rounds_lt : ∀ i, rounds.getD i 0 < 18446744073709551616
  firsts_lt : ∀ i, firsts.getD i 0 < 18446744073709551616
def roundsL [Inhabited Tabs] : List Nat := (default : Tabs).rounds
def firstsL [Inhabited Tabs] : List Nat := (default : Tabs).firsts
theorem rounds_less [Inhabited Tabs] (i : Nat) : roundsL.getD i 0 < 18446744073709551616 := (default : Tabs).rounds_lt i
theorem firsts_less [Inhabited Tabs] (i : Nat) : firstsL.getD i 0 < 18446744073709551616 := (default : Tabs).firsts_lt i
/-- The package's numbers lie in memory. -/
def GlobAt [Inhabited Go.Proofs.YtlbpodddokhmaaaGreat.Sha.Tabs] (W : World) : Prop := (∀ i, i < 80 → W.cell? ⟨1, i, none⟩ = some (.int .u64 ((roundsL.getD i 0 : Nat) : Int))) ∧ (∀ i, i < 16 → W.cell? ⟨0, i, none⟩ = some (.int .u64 ((firstsL.getD i 0 : Nat) : Int)))
theorem GlobAt.below [Inhabited Go.Proofs.YtlbpodddokhmaaaGreat.Sha.Tabs] {W W' : World} (h : GlobAt W) (hb : Below W.heap.size W W') : GlobAt W' :=
  ⟨fun i hi => by rw [hb.cell (p := ⟨1, i, none⟩) (World.block_lt_of_cell? W ⟨1, i, none⟩ (h.1 i hi))]; exact h.1 i hi,
   fun i hi => by rw [hb.cell (p := ⟨0, i, none⟩) (World.block_lt_of_cell? W ⟨0, i, none⟩ (h.2 i hi))]; exact h.2 i hi⟩
theorem GlobAt.lt [Inhabited Go.Proofs.YtlbpodddokhmaaaGreat.Sha.Tabs] {W : World} (h : GlobAt W) : 1 < W.heap.size ∧ 0 < W.heap.size :=
  ⟨World.block_lt_of_cell? W ⟨1, 0, none⟩ (h.1 0 (by omega)), World.block_lt_of_cell? W ⟨0, 0, none⟩ (h.2 0 (by omega))⟩
theorem infoByte : (Tryz.prog.info? 5).map (fun i => (i.zero, i.size, i.bytes)) = some (some (.int .u8 0), 1, 1) := by kernel_rfl
def zeros (n : Nat) : List Nat := List.replicate n 0
theorem zeros_length (n : Nat) : (zeros n).length = n := List.length_replicate
theorem made_zeros (k : IntKind) (n : Nat) : madeCells #[.int k 0] n = nums k (zeros n) :=
  Array.toList_inj.1 (by rw [toList_madeCells_one]; simp [nums, zeros])
theorem zeros_get (n i : Nat) : (zeros n).getD i 0 = 0 := by
  by_cases h : i < n
  · simp [zeros, List.getD, h]
  · simp [zeros, List.getD, h]
theorem set_zero {l : List Nat} {i : Nat} (h : i < l.length) (h0 : l.getD i 0 = 0) : l.set i 0 = l := by
  have e : l[i] = 0 := by simpa [List.getD, h] using h0
  apply List.ext_getElem (by simp)
  intro j h1 h2
  rw [List.getElem_set]
  split
  · next hij => subst hij; exact e.symm
  · rfl
/-- A number's bytes, the greatest first. -/
def numF (n size i : Nat) : Nat := if size - 1 - i < 8 then n / 2 ^ (8 * (size - 1 - i)) % 256 else 0
def numB (n size : Nat) : List UInt8 := (tab (numF n size) size).map UInt8.ofNat
theorem numB_length (n size : Nat) : (numB n size).length = size := by rw [numB, List.length_map, tab_length]
set_option maxRecDepth 100000 in
theorem number_any (n size : Nat) (w : World) (hs : size ≤ 16) : Calls Tryz.prog 121 #[.int .u64 n, .int .i64 size] w fun e w' => e = .returned (.string (B (numB n size))) ∧ Below w.heap.size w w' := by
  have hmk := run_make_row' (P := Tryz.prog) 73 5 (.int .u8 0) 1 Tryz.underlying73 infoByte rfl .i64 .i64 size (by omega) (by omega) w
  rw [made_zeros] at hmk
  have HR := Lib.hid (show numB n size = (tab (numF n size) size).map UInt8.ofNat from rfl)
  have HN := Lib.hid (show ∀ i, numF n size i = if size - 1 - i < 8 then n / 2 ^ (8 * (size - 1 - i)) % 256 else 0 from fun _ => rfl)
  generalize numB n size = res at *
  generalize numF n size = g at *
  go_enter Tryz.func121, Tryz.ntmps121
  go_wp2
  have hrow := NumsAt.new w 5 .u8 (zeros size)
  have hbel : Below w.heap.size w (w.alloc (.cells (nums .u8 (zeros size)) 5)) := by ((repeat' (with_reducible first | exact Below.refl _ _ | assumption | refine Below.drew ?_ | refine below_drewN ?_ _ | refine Below.setCell ?_ ?_ _ | refine Below.alloc ?_ ?_ _ | refine Below.ext ?_ ?_ _ | refine Below.trans ?_ (Below.mono ‹_› ?_))) <;> first | omega | (simp; done) | (simp; omega))
  clear hmk
  generalize w.alloc (.cells (nums .u8 (zeros size)) 5) = W1 at *
  go_loopw [12] (fun s12 wr => ∃ (i : Nat) (l : List Nat), i ≤ size ∧ s12 = .int .i64 i ∧ l = fillN g (zeros size) i ∧ NumsAt wr w.heap.size 5 .u8 l ∧ Below w.heap.size w wr) (fun s _ => size - (intOf s).toNat)
  case atStart => exact ⟨0, zeros size, by omega, rfl, rfl, hrow, hbel⟩
  case round =>
    clear hrow hbel W1
    obtain ⟨i, l, hi, rfl, hl, hrow, hbel⟩ := hrel
    have hll : l.length = size := by rw [hl, fillN_length, zeros_length]
    have HL := Lib.hid hl
    have HBL := Lib.hid hbel
    by_cases hend : i = size
    · have hlt : ¬ (i : Int) < (size : Int) := by omega
      have hst := string_of (P := Tryz.prog) wr 73 9 5 ⟨w.heap.size, 0, none⟩ size size l Tryz.underlying73 Tryz.underlying5 Tryz.underlying9 hll (fun j hj => by
        have e1 : (⟨w.heap.size, 0, none⟩ : Addr).add j = ⟨w.heap.size, j, none⟩ := by simp [Addr.add]; omega
        rw [e1]; exact hrow.cell j (by omega))
      have hres : NB l = B res := by
        rw [HL.out, hend, fillN_full _ (zeros_length size), HR.out]; rfl
      rw [hres] at hst
      clear hend hres hl hbel hrow
      go_wp2
      go_ret
      exact ⟨rfl, HBL.out⟩
    · have hlt : (i : Int) < (size : Int) := by omega
      have hlo : l.getD i 0 = 0 := by
        rw [hl, fillN_get _ _ _ _ (by rw [zeros_length]; omega), if_neg (by omega), zeros_get]
      have hc := hrow.cellv i 0 (by omega) hlo
      have hf := hrow.frozen i
      have hbl := hrow.lt
      obtain ⟨k, hk⟩ : ∃ k, k = size - 1 - i := ⟨_, rfl⟩
      have hki : (size : Int) - 1 - (i : Int) = (k : Int) := by omega
      have hk16 : k ≤ 16 := by omega
      have hgn := HN.out i
      rw [← hk] at hgn
      have HROW := Lib.hid hrow
      have HLO := Lib.hid hlo
      clear hl hlo hrow hbel
      have HK := Lib.hid hk
      clear hk
      by_cases hk8 : k < 8
      · have hk8i : (k : Int) < 8 := by omega
        rw [if_pos hk8] at hgn
        have hvi : (n : Int) / 2 ^ (8 * k) % 256 = ((g i : Nat) : Int) := by rw [hgn]; simp
        have HG := Lib.hid hgn
        clear hgn
        generalize hgv : g i = v at *
        have HGV := Lib.hid hgv
        clear hgv
        go_wp2
        go_round
        case rel => exact ⟨i + 1, l.set i v, by omega, by go_num, by rw [fillN, ← HL.out, HGV.out], HROW.out.set i v, Below.setCell HBL.out (Nat.le_refl _) _⟩
        case measure => simp [intOf]; omega
      · have hk8i : ¬ (k : Int) < 8 := by omega
        rw [if_neg hk8] at hgn
        have HG := Lib.hid hgn
        clear hgn
        go_wp2
        go_round
        case rel =>
          refine ⟨i + 1, l, by omega, by go_num, ?_, HROW.out, HBL.out⟩
          rw [fillN, ← HL.out, HG.out, set_zero (by omega) HLO.out]
        case measure => simp [intOf]; omega
end Go.Proofs.YtlbpodddokhmaaaGreat.Sha
