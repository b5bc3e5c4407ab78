/-
  SHA-2's words of 32 bits: the walk of begin.
  Conditions: the package's numbers lie in memory.
-/
import Derived.Test.YtpgadpnaekhiaaaDoorShaB32
namespace Go.Proofs.YtpgadpnaekhiaaaDoor.Sha32
open Go.ChangeShapes Go.WideShapes Go.ChangeAt Go.RowKit Go.Deep Go.Proofs.YtpgadpnaekhiaaaDoor.Bw
open Go.Proofs.YtpgadpnaekhiaaaDoor.Sha (roundsL firstsL GlobAt zeros zeros_length made_zeros)
theorem atFirsts (W : World) (b i : Nat) (h : i < 2) : (Instr.indexAt 96 (.pointer (some ⟨b, 0, none⟩)) (.int .i64 (i : Int))).run Tryd.prog W = .ok (.pointer (some ⟨b, i * 8, none⟩)) W := by
  have hi : (i : Int) < 2 := by omega
  go_simp
theorem atEight (W : World) (b o i : Nat) (h : i < 8) : (Instr.indexAt 50 (.pointer (some ⟨b, o, none⟩)) (.int .i64 (i : Int))).run Tryd.prog W = .ok (.pointer (some ⟨b, o + i, none⟩)) W := by
  have hi : (i : Int) < 8 := by omega
  go_simp
theorem atWords (W : World) (b i : Nat) (h : i < 8) : (Instr.indexAt 78 (.pointer (some ⟨b, 0, none⟩)) (.int .i64 (i : Int))).run Tryd.prog W = .ok (.pointer (some ⟨b, i, none⟩)) W := by
  have hi : (i : Int) < 8 := by omega
  go_simp
theorem firsts_lt (i : Nat) : firstsL.getD i 0 < 18446744073709551616 := by
  by_cases h : i < 16
  · exact (by decide +kernel : ∀ i, i < 16 → firstsL.getD i 0 < 18446744073709551616) i h
  · rw [List.getD, List.getElem?_eq_none (by show firstsL.length ≤ i; exact Nat.not_lt.1 h)]; decide
/-- What is begun with. -/
def beginF (fr i : Nat) : Nat := cutF (firstsL.getD (fr * 8 + i) 0)
def beginL (fr : Nat) : List Nat := tab (beginF fr) 8
/-- What a region of begin keeps. -/
def BegS (w W : World) : Prop := Below w.heap.size w W ∧ W.heap[w.heap.size]? = some (.cells #[.int .i64 32, .int .i64 64, .int .i64 2, .int .i64 13, .int .i64 22, .int .i64 6, .int .i64 11, .int .i64 25, .int .i64 7, .int .i64 18, .int .i64 3, .int .i64 17, .int .i64 19, .int .i64 10] 75 (0, 0)) ∧ (∃ l, NumsAt W (w.heap.size + 2) 78 .u32 l ∧ l.length = 8) ∧ NumsAt W (w.heap.size + 1) 78 .u32 (zeros 8)
theorem BegS.keep {w : World} (W W1 : World) (h : BegS w W) (hb : Below W.heap.size W W1) : BegS w W1 := by
  obtain ⟨a, b, ⟨l, c, d⟩, e⟩ := h
  exact ⟨a.trans (hb.mono a.size), below_heap hb (lt_of_heap b) b, ⟨l, c.below hb, d⟩, e.below hb⟩
set_option maxHeartbeats 800000 in
set_option maxRecDepth 100000 in
theorem begin_any (size fr : Nat) (w : World) (hg : GlobAt w) (hs : (((size : Int) == 384) = true ∧ fr = 1) ∨ (((size : Int) == 384) = false ∧ fr = 0)) : Calls Tryd.prog 44 #[.int .i64 size, FV] w fun e w' => e = .returned (.agg (nums .u32 (beginL fr))) ∧ Below w.heap.size w w' := by
  have HG := Lib.hid hg
  have HGL := hg.lt
  have HTL := Lib.hid (show beginL fr = tab (beginF fr) 8 from rfl)
  have HBF := Lib.hid (show ∀ i, beginF fr i = cutF (firstsL.getD (fr * 8 + i) 0) from fun _ => rfl)
  have hBL : (beginL fr).length = 8 := tab_length _ _
  clear hg
  have hFV : FV = .agg #[.int .i64 32, .int .i64 64, .int .i64 2, .int .i64 13, .int .i64 22, .int .i64 6, .int .i64 11, .int .i64 25, .int .i64 7, .int .i64 18, .int .i64 3, .int .i64 17, .int .i64 19, .int .i64 10] := rfl
  have HCUT := Lib.hid fun n W hn => cut_any n W hn
  rw [hFV] at *
  have hfr2 : fr < 2 := by omega
  generalize beginL fr = BL at *
  generalize beginF fr = bf at *
  go_enter Tryd.func44, Tryd.ntmps44
  go_upto_if 9 with fail
  go_cut [5] from 9 (fun s5 W => s5 = .int .i64 (fr : Int) ∧ Below w.heap.size w W ∧ W.heap[w.heap.size]? = some (.cells #[.int .i64 32, .int .i64 64, .int .i64 2, .int .i64 13, .int .i64 22, .int .i64 6, .int .i64 11, .int .i64 25, .int .i64 7, .int .i64 18, .int .i64 3, .int .i64 17, .int .i64 19, .int .i64 10] 75 (0, 0)) ∧ NumsAt W (w.heap.size + 1) 78 .u32 (zeros 8) ∧ W.heap.size = w.heap.size + 2)
  case first =>
    have hnew : NumsAt ((w.alloc (.cells #[.int .i64 32, .int .i64 64, .int .i64 2, .int .i64 13, .int .i64 22, .int .i64 6, .int .i64 11, .int .i64 25, .int .i64 7, .int .i64 18, .int .i64 3, .int .i64 17, .int .i64 19, .int .i64 10] 75)).alloc (.cells (nums .u32 (zeros 8)) 78)) (w.heap.size + 1) 78 .u32 (zeros 8) := heap_at (by simp)
    rcases hs with ⟨hb, hfr⟩ | ⟨hb, hfr⟩
    all_goals
      have HFR := Lib.hid hfr
      clear hfr
      go_wp2
      go_meet
      exact ⟨by rw [HFR.out]; rfl, by ((repeat' (with_reducible first | exact Below.refl _ _ | assumption | refine Below.drew ?_ | refine below_drewN ?_ _ | refine Below.setCell ?_ ?_ _ | refine Below.alloc ?_ ?_ _ | refine Below.ext ?_ ?_ _ | refine Below.trans ?_ (Below.mono ‹_› ?_))) <;> first | omega | (simp; done) | (simp; omega)), heap_under (heap_alloc_last w _), hnew, by simp⟩
  case rest =>
    obtain ⟨rfl, hbel, hform, hres, hsz⟩ := hcut
    have HS := Lib.hid hs
    clear hs
    go_wp2
    have hrow := NumsAt.new wc 78 .u32 (zeros 8)
    rw [hsz] at hrow
    replace hbel : Below w.heap.size w (wc.alloc (.cells (nums .u32 (zeros 8)) 78)) := hbel.alloc (by omega) _
    replace hform : (wc.alloc (.cells (nums .u32 (zeros 8)) 78)).heap[w.heap.size]? = _ := heap_under hform
    replace hres := hres.alloc (.cells (nums .u32 (zeros 8)) 78)
    rw [show (#[.int .u32 0, .int .u32 0, .int .u32 0, .int .u32 0, .int .u32 0, .int .u32 0, .int .u32 0, .int .u32 0] : Array Value) = nums .u32 (zeros 8) by kernel_rfl]
    generalize wc.alloc (.cells (nums .u32 (zeros 8)) 78) = W1 at *
    clear hsz
    go_loopw [10] (fun s10 wr => ∃ (i : Nat) (l : List Nat), i ≤ 8 ∧ s10 = .int .i64 i ∧ l = fillN bf (zeros 8) i ∧ NumsAt wr (w.heap.size + 2) 78 .u32 l ∧ NumsAt wr (w.heap.size + 1) 78 .u32 (zeros 8) ∧ wr.heap[w.heap.size]? = some (.cells #[.int .i64 32, .int .i64 64, .int .i64 2, .int .i64 13, .int .i64 22, .int .i64 6, .int .i64 11, .int .i64 25, .int .i64 7, .int .i64 18, .int .i64 3, .int .i64 17, .int .i64 19, .int .i64 10] 75 (0, 0)) ∧ Below w.heap.size w wr) (fun s _ => 8 - (intOf s).toNat)
    case atStart => exact ⟨0, zeros 8, by omega, rfl, rfl, hrow, hres, hform, hbel⟩
    case round =>
      clear hrow hform hbel hres W1
      obtain ⟨i, l, hi, rfl, hl, hrow, hres, hform, hbel⟩ := hrel
      have hll : l.length = 8 := by rw [hl, fillN_length, zeros_length]
      have HL := Lib.hid hl
      clear hl
      by_cases hend : i = 8
      · have hlt : ¬ (i : Int) < 8 := by omega
        have hl0 : l = BL := by rw [HL.out, hend, fillN_full _ (zeros_length 8), HTL.out]
        rw [hl0] at hrow
        clear hend hl0 HL hll
        go_upto_region 10 with fail
        apply wp_region_lit (l := [_, _])
        refine wpList_load_rowTo rfl _ rfl 78 _ rfl (w.heap.size + 2) rfl (nums .u32 BL) 78 (0, 0) hrow _ Tryd.underlying78 rfl (by rw [nums_size, hBL]; kernel_rfl) ?_
        refine wpList_store_rowTo rfl 78 _ _ rfl rfl (w.heap.size + 1) (nums .u32 BL) rfl rfl 78 (nums .u32 (zeros 8)) hres (by rw [nums_size, hBL]; kernel_rfl) (by rw [nums_size, nums_size, hBL, zeros_length]) (nums_oneCell _ _) ?_
        have hres2 := hres.setRow BL
        have hbel2 := Below.setRow hbel (w.heap.size + 1) (by omega) (nums .u32 BL)
        generalize wr.setRow (w.heap.size + 1) (nums .u32 BL) = W9 at *
        go_wp2
        exact post_row (w.heap.size + 1) Tryd.results44 78 (nums .u32 BL) _ rfl hres2 Tryd.underlying78 rfl (by rw [nums_size, hBL]; kernel_rfl) rfl ⟨rfl, hbel2⟩
      · have hlt : (i : Int) < 8 := by omega
        have hi2 : i < 8 := by omega
        have hbi := HBF.out i
        go_upto_region 8 with fail
        have hS : BegS w wr.drew := ⟨hbel.drew, hform, ⟨l, hrow.drew, hll⟩, hres.drew⟩
        refine wp_region_held (S := fun W => BegS w W) (by kernel_rfl) ?_
        change wpAnyH _ _ _ _ _ _ _ _ wr.drew
        refine takeH 0 rfl rfl (some 13) rfl (.int .i64 (i : Int)) (by kernel_rfl) (by kernel_rfl) (by kernel_rfl) (fun _ _ _ h => h) (fun _ _ => rfl) hS ?_
        simp only [Act.put, List.setIfInBounds_toArray, List.set_cons_zero, List.set_cons_succ]
        refine takeH 1 rfl rfl (some 14) rfl (.int .i64 (fr : Int)) (by kernel_rfl) (by kernel_rfl) (by kernel_rfl) (fun _ _ _ h => h) (fun _ _ => rfl) hS ?_
        simp only [Act.put, List.setIfInBounds_toArray, List.set_cons_zero, List.set_cons_succ]
        refine takeH 2 rfl rfl (some 15) rfl (.int .i64 (i : Int)) (by kernel_rfl) (by kernel_rfl) (by kernel_rfl) (fun _ _ _ h => h) (fun _ _ => rfl) hS ?_
        simp only [Act.put, List.setIfInBounds_toArray, List.set_cons_zero, List.set_cons_succ]
        refine takeH 3 rfl rfl (some 16) rfl (.pointer (some ⟨0, fr * 8, none⟩)) (by kernel_rfl) (by kernel_rfl) (by kernel_rfl) (fun _ _ _ h => h) (fun w1 _ => runAt _ _ _ rfl _ _ _ rfl rfl (atFirsts w1 _ fr hfr2)) hS ?_
        simp only [Act.put, List.setIfInBounds_toArray, List.set_cons_zero, List.set_cons_succ]
        refine takeH 4 rfl rfl (some 17) rfl (.pointer (some ⟨0, fr * 8 + i, none⟩)) (by kernel_rfl) (by kernel_rfl) (by kernel_rfl) (fun _ _ _ h => h) (fun w1 _ => runAt _ _ _ rfl _ _ _ rfl rfl (atEight w1 _ _ i hi2)) hS ?_
        simp only [Act.put, List.setIfInBounds_toArray, List.set_cons_zero, List.set_cons_succ]
        refine takeH 5 rfl rfl (some 18) rfl (.int .u64 ((firstsL.getD (fr * 8 + i) 0 : Nat) : Int)) (by kernel_rfl) (by kernel_rfl) (by kernel_rfl) (fun _ _ _ h => h) (fun w1 h1 => runLoad _ _ rfl _ _ rfl (ldWord w1 _ _ ((HG.out.below h1.1).2 (fr * 8 + i) (by omega)))) hS ?_
        simp only [Act.put, List.setIfInBounds_toArray, List.set_cons_zero, List.set_cons_succ]
        refine takeH 6 rfl rfl (some 19) rfl (.agg #[.int .i64 32, .int .i64 64, .int .i64 2, .int .i64 13, .int .i64 22, .int .i64 6, .int .i64 11, .int .i64 25, .int .i64 7, .int .i64 18, .int .i64 3, .int .i64 17, .int .i64 19, .int .i64 10]) (by kernel_rfl) (by kernel_rfl) (by kernel_rfl) (fun _ _ _ h => h) (fun w1 h1 => runForm _ rfl rfl h1.2.1) hS ?_
        simp only [Act.put, List.setIfInBounds_toArray, List.set_cons_zero, List.set_cons_succ]
        refine oneH 7 rfl rfl (by kernel_rfl) fun K hK => ?_
        refine wpH_call (some 20) rfl 58 #[.int .u64 ((firstsL.getD (fr * 8 + i) 0 : Nat) : Int), .agg #[.int .i64 32, .int .i64 64, .int .i64 2, .int .i64 13, .int .i64 22, .int .i64 6, .int .i64 11, .int .i64 25, .int .i64 7, .int .i64 18, .int .i64 3, .int .i64 17, .int .i64 19, .int .i64 10]] (by kernel_rfl) _ _ (HCUT.out _ wr.drew (firsts_lt _)) fun Wc1 hWc1 => ?_
        simp only [Act.put, List.setIfInBounds_toArray, List.set_cons_zero, List.set_cons_succ]
        have hSc1 := BegS.keep wr.drew Wc1 hS hWc1
        refine hK _ _ hSc1 fun _ => ?_
        clear hK K
        refine takeH 8 rfl rfl (some 21) rfl (.pointer (some ⟨w.heap.size + 2, i, none⟩)) (by kernel_rfl) (by kernel_rfl) (by kernel_rfl) (fun _ _ _ h => h) (fun w1 _ => runAt _ _ _ rfl _ _ _ rfl rfl (atWords w1 _ i hi2)) hSc1 ?_
        simp only [Act.put, List.setIfInBounds_toArray, List.set_cons_zero, List.set_cons_succ]
        have hrow1 := hrow.drew.below hWc1
        have hcl := hrow1.cell i (by omega)
        have hfz := hrow1.frozen i
        rw [← hbi]
        have hS2 : BegS w (Wc1.setCell ⟨w.heap.size + 2, i, none⟩ (.int .u32 ((bf i : Nat) : Int))) := ⟨Below.setCell hSc1.1 (by show w.heap.size ≤ w.heap.size + 2; omega) _, by rw [setCell_block _ _ _ _ _ (by show ¬ w.heap.size + 2 = w.heap.size; omega)]; exact hSc1.2.1, ⟨_, hrow1.set i _, by rw [List.length_set]; exact hll⟩, hSc1.2.2.2.other _ i _ (by omega)⟩
        refine oneH 9 rfl rfl (by kernel_rfl) fun K hK => ?_
        refine wpH_skip (w' := Wc1.setCell ⟨w.heap.size + 2, i, none⟩ (.int .u32 ((bf i : Nat) : Int))) rfl (runStore _ _ _ rfl _ _ rfl rfl (stWord Wc1 _ i _ _ hcl hfz)) ?_
        refine hK _ _ hS2 fun _ => ?_
        clear hK K
        refine wpAnyH_done (by kernel_rfl) ?_ _
        have H2 := Lib.hid hS2
        have HR2 := Lib.hid (hrow1.set i (bf i))
        clear hS2 hcl hfz hrow1 hSc1 hWc1 hS hrow hform hbel hres hbi
        generalize Wc1.setCell ⟨w.heap.size + 2, i, none⟩ (.int .u32 ((bf i : Nat) : Int)) = W9 at *
        go_wp2
        go_round
        case rel => exact ⟨i + 1, l.set i (bf i), by omega, by go_num, by rw [fillN, ← HL.out], HR2.out, H2.out.2.2.2, H2.out.2.1, H2.out.1⟩
        case measure => simp [intOf]; omega
end Go.Proofs.YtpgadpnaekhiaaaDoor.Sha32
