/-
  The walk of the reference's Head.
  Conditions: the kind of a head is at most 7.
-/
import Derived.Test.YthoickghfjgmmaaDoorItm6
namespace Go.Proofs.YthoickghfjgmmaaDoor.Itm
open Go.ChangeShapes Go.WideShapes Go.ChangeAt Go.RowKit Go.Deep
set_option maxHeartbeats 3200000 in
set_option maxRecDepth 100000 in
theorem Head_1 (m n : Nat) (w : World) (hm : m ≤ 7) (hn : n < W64) (h1 : 24 ≤ n) (h2 : n < 256) : Calls Tryd.prog 25 #[.int .i64 m, .int .u64 n] w fun e w' => e = .returned (.string (B (headB m n))) ∧ Below w.heap.size w w' := by
  obtain ⟨x, hx⟩ : ∃ x, x = 32 * m := ⟨_, rfl⟩
  have hx256 : x ≤ 224 := by omega
  have hm8 : (m : Int) ≤ 7 := by omega
  have hx2 : (32 * (m : Int)) % 256 = 32 * (m : Int) := by omega
  have HX : Hid (32 * (m : Int) = (x : Int)) := Lib.hid (by omega)
  have HN := Lib.hid hn
  have g0 : decide ((n : Int) < 24) = false := by rw [decide_eq_false]; omega
  have g1 : decide ((n : Int) < 256) = true := by rw [decide_eq_true]; omega
  have HV0 : Hid (headB m n = [UInt8.ofNat (x + 24)] ++ dg n 1) := Lib.hid (by rw [hx, headB, if_neg (show ¬ n < 24 by omega), if_pos h2]; rfl)
  clear hn h1 hx h2
  go_enter Tryd.func25, Tryd.ntmps25
  go_wp2_with fail
  clear hx2
  rw [HX.out]
  have hS0 : Below w.heap.size w w.drew := (Below.refl _ _).drew
  refine wp_region_held (S := fun W => Below w.heap.size w W) (by kernel_rfl) ?_
  change wpAnyH _ _ _ _ _ _ _ _ w.drew
  refine takeH 0 rfl rfl (some 19) rfl (.int .u8 (x : Int)) (by kernel_rfl) (by kernel_rfl) (by kernel_rfl) (fun _ _ _ h => h) (fun _ _ => by kernel_rfl) hS0 ?_
  simp only [Act.put, List.setIfInBounds_toArray, List.set_cons_zero, List.set_cons_succ]
  refine takeH 1 rfl rfl (some 20) rfl (.int .u8 ((x + 24 : Nat) : Int)) (by kernel_rfl) (by kernel_rfl) (by kernel_rfl) (fun _ _ _ h => h) (fun _ _ => runAdd8 (.tmp 19) 24 _ rfl x rfl (by omega)) hS0 ?_
  simp only [Act.put, List.setIfInBounds_toArray, List.set_cons_zero, List.set_cons_succ]
  refine takeH 4 rfl rfl (some 23) rfl (.int .u64 (n : Int)) (by kernel_rfl) (by kernel_rfl) (by kernel_rfl) (fun _ _ _ h => h) (fun _ _ => by kernel_rfl) hS0 ?_
  simp only [Act.put, List.setIfInBounds_toArray, List.set_cons_zero, List.set_cons_succ]
  refine twoH 2 5 rfl rfl rfl rfl (by kernel_rfl) (fun K hK => ?_) (fun K hK => ?_)
  · refine wpH_run (some 21) rfl (.slice (some ⟨w.drew.heap.size, 0, none⟩) 1 1) (runBld1 (.tmp 20) rfl (x + 24) rfl) ?_
    simp only [Act.put, List.setIfInBounds_toArray, List.set_cons_zero, List.set_cons_succ]
    have hB : Below w.heap.size w (w.drew.alloc (.cells #[.int .u8 ((x + 24 : Nat) : Int)] 5)) := hS0.alloc hS0.size _
    have hcell : (w.drew.alloc (.cells #[.int .u8 ((x + 24 : Nat) : Int)] 5)).cell? ⟨w.drew.heap.size, 0, none⟩ = some (.int .u8 ((x + 24 : Nat) : Int)) := by rw [cell_of_row _ _ _ _ _ _ (heap_alloc_last w.drew _)]; rfl
    have hlt : w.drew.heap.size < (w.drew.alloc (.cells #[.int .u8 ((x + 24 : Nat) : Int)] 5)).heap.size := lt_of_last
    generalize w.drew.alloc (.cells #[.int .u8 ((x + 24 : Nat) : Int)] 5) = Wb at *
    generalize w.drew.heap.size = g at *
    refine hK _ _ hB fun _ => ?_
    clear hK K
    refine twoH 3 5 rfl rfl rfl rfl (by kernel_rfl) (fun K hK => ?_) (fun K hK => ?_)
    · refine wpH_run (w' := Wb) (some 22) rfl (.string (B [UInt8.ofNat (x + 24)])) (runConv1 (.tmp 21) rfl (x + 24) g rfl hcell) ?_
      simp only [Act.put, List.setIfInBounds_toArray, List.set_cons_zero, List.set_cons_succ]
      refine hK _ _ hB fun _ => ?_
      clear hK K
      refine oneH 5 rfl rfl (by kernel_rfl) fun K hK => ?_
      refine wpH_call (some 24) rfl 28 #[.int .u64 (n : Int), .int .i64 1] (by kernel_rfl) _ _ (digits_any n 1 _ HN.out (by omega)) fun Wc hWc => ?_
      simp only [Act.put, List.setIfInBounds_toArray, List.set_cons_zero, List.set_cons_succ]
      have hC : Below w.heap.size w Wc := hB.trans (hWc.mono hB.size)
      refine hK _ _ hC fun _ => ?_
      clear hK K
      refine takeH 6 rfl rfl (some 25) rfl (.string (B ([UInt8.ofNat (x + 24)] ++ dg n 1))) (by kernel_rfl) (by kernel_rfl) (by kernel_rfl) (fun _ _ _ h => h) (fun _ _ => runCat (.tmp 22) (.tmp 24) _ rfl _ _ rfl rfl (by rw [dg_length]; simp)) hC ?_
      simp only [Act.put, List.setIfInBounds_toArray, List.set_cons_zero, List.set_cons_succ]
      refine takeH 7 rfl rfl (some 4) rfl (.string (B ([UInt8.ofNat (x + 24)] ++ dg n 1))) (by kernel_rfl) (by kernel_rfl) (by kernel_rfl) (fun _ _ _ h => h) (fun _ _ => by kernel_rfl) hC ?_
      simp only [Act.put, List.setIfInBounds_toArray, List.set_cons_zero, List.set_cons_succ]
      refine wpAnyH_done (by kernel_rfl) ?_ _
      have HE := Lib.hid hC
      have HV := HV0
      clear HV0
      generalize [UInt8.ofNat (x + 24)] ++ dg n 1 = R at *
      go_wp2
      go_ret
      exact ⟨by rw [HV.out]; rfl, HE.out⟩
    · refine wpH_call (some 24) rfl 28 #[.int .u64 (n : Int), .int .i64 1] (by kernel_rfl) _ _ (digits_any n 1 _ HN.out (by omega)) fun Wc hWc => ?_
      simp only [Act.put, List.setIfInBounds_toArray, List.set_cons_zero, List.set_cons_succ]
      have hC : Below w.heap.size w Wc := hB.trans (hWc.mono hB.size)
      refine hK _ _ hC fun _ => ?_
      clear hK K
      have hcell2 : Wc.cell? ⟨g, 0, none⟩ = some (.int .u8 ((x + 24 : Nat) : Int)) := by rw [hWc.cell (p := ⟨g, 0, none⟩) hlt]; exact hcell
      refine oneH 3 rfl rfl (by kernel_rfl) fun K hK => ?_
      refine wpH_run (w' := Wc) (some 22) rfl (.string (B [UInt8.ofNat (x + 24)])) (runConv1 (.tmp 21) rfl (x + 24) g rfl hcell2) ?_
      simp only [Act.put, List.setIfInBounds_toArray, List.set_cons_zero, List.set_cons_succ]
      refine hK _ _ hC fun _ => ?_
      clear hK K
      refine takeH 6 rfl rfl (some 25) rfl (.string (B ([UInt8.ofNat (x + 24)] ++ dg n 1))) (by kernel_rfl) (by kernel_rfl) (by kernel_rfl) (fun _ _ _ h => h) (fun _ _ => runCat (.tmp 22) (.tmp 24) _ rfl _ _ rfl rfl (by rw [dg_length]; simp)) hC ?_
      simp only [Act.put, List.setIfInBounds_toArray, List.set_cons_zero, List.set_cons_succ]
      refine takeH 7 rfl rfl (some 4) rfl (.string (B ([UInt8.ofNat (x + 24)] ++ dg n 1))) (by kernel_rfl) (by kernel_rfl) (by kernel_rfl) (fun _ _ _ h => h) (fun _ _ => by kernel_rfl) hC ?_
      simp only [Act.put, List.setIfInBounds_toArray, List.set_cons_zero, List.set_cons_succ]
      refine wpAnyH_done (by kernel_rfl) ?_ _
      have HE := Lib.hid hC
      have HV := HV0
      clear HV0
      generalize [UInt8.ofNat (x + 24)] ++ dg n 1 = R at *
      go_wp2
      go_ret
      exact ⟨by rw [HV.out]; rfl, HE.out⟩
  · refine wpH_call (some 24) rfl 28 #[.int .u64 (n : Int), .int .i64 1] (by kernel_rfl) _ _ (digits_any n 1 _ HN.out (by omega)) fun Wc hWc => ?_
    simp only [Act.put, List.setIfInBounds_toArray, List.set_cons_zero, List.set_cons_succ]
    have hC : Below w.heap.size w Wc := hS0.trans (hWc.mono hS0.size)
    refine hK _ _ hC fun _ => ?_
    clear hK K
    refine oneH 2 rfl rfl (by kernel_rfl) fun K hK => ?_
    refine wpH_run (some 21) rfl (.slice (some ⟨Wc.heap.size, 0, none⟩) 1 1) (runBld1 (.tmp 20) rfl (x + 24) rfl) ?_
    simp only [Act.put, List.setIfInBounds_toArray, List.set_cons_zero, List.set_cons_succ]
    have hB : Below w.heap.size w (Wc.alloc (.cells #[.int .u8 ((x + 24 : Nat) : Int)] 5)) := hC.alloc hC.size _
    have hcell : (Wc.alloc (.cells #[.int .u8 ((x + 24 : Nat) : Int)] 5)).cell? ⟨Wc.heap.size, 0, none⟩ = some (.int .u8 ((x + 24 : Nat) : Int)) := by rw [cell_of_row _ _ _ _ _ _ (heap_alloc_last Wc _)]; rfl
    have hlt : Wc.heap.size < (Wc.alloc (.cells #[.int .u8 ((x + 24 : Nat) : Int)] 5)).heap.size := lt_of_last
    generalize Wc.alloc (.cells #[.int .u8 ((x + 24 : Nat) : Int)] 5) = Wb at *
    generalize Wc.heap.size = g at *
    refine hK _ _ hB fun _ => ?_
    clear hK K
    refine oneH 3 rfl rfl (by kernel_rfl) fun K hK => ?_
    refine wpH_run (w' := Wb) (some 22) rfl (.string (B [UInt8.ofNat (x + 24)])) (runConv1 (.tmp 21) rfl (x + 24) g rfl hcell) ?_
    simp only [Act.put, List.setIfInBounds_toArray, List.set_cons_zero, List.set_cons_succ]
    refine hK _ _ hB fun _ => ?_
    clear hK K
    refine takeH 6 rfl rfl (some 25) rfl (.string (B ([UInt8.ofNat (x + 24)] ++ dg n 1))) (by kernel_rfl) (by kernel_rfl) (by kernel_rfl) (fun _ _ _ h => h) (fun _ _ => runCat (.tmp 22) (.tmp 24) _ rfl _ _ rfl rfl (by rw [dg_length]; simp)) hB ?_
    simp only [Act.put, List.setIfInBounds_toArray, List.set_cons_zero, List.set_cons_succ]
    refine takeH 7 rfl rfl (some 4) rfl (.string (B ([UInt8.ofNat (x + 24)] ++ dg n 1))) (by kernel_rfl) (by kernel_rfl) (by kernel_rfl) (fun _ _ _ h => h) (fun _ _ => by kernel_rfl) hB ?_
    simp only [Act.put, List.setIfInBounds_toArray, List.set_cons_zero, List.set_cons_succ]
    refine wpAnyH_done (by kernel_rfl) ?_ _
    have HE := Lib.hid hB
    have HV := HV0
    clear HV0
    generalize [UInt8.ofNat (x + 24)] ++ dg n 1 = R at *
    go_wp2
    go_ret
    exact ⟨by rw [HV.out]; rfl, HE.out⟩
set_option maxHeartbeats 3200000 in
set_option maxRecDepth 100000 in
theorem Head_2 (m n : Nat) (w : World) (hm : m ≤ 7) (hn : n < W64) (h1 : 256 ≤ n) (h2 : n < 65536) : Calls Tryd.prog 25 #[.int .i64 m, .int .u64 n] w fun e w' => e = .returned (.string (B (headB m n))) ∧ Below w.heap.size w w' := by
  obtain ⟨x, hx⟩ : ∃ x, x = 32 * m := ⟨_, rfl⟩
  have hx256 : x ≤ 224 := by omega
  have hm8 : (m : Int) ≤ 7 := by omega
  have hx2 : (32 * (m : Int)) % 256 = 32 * (m : Int) := by omega
  have HX : Hid (32 * (m : Int) = (x : Int)) := Lib.hid (by omega)
  have HN := Lib.hid hn
  have g0 : decide ((n : Int) < 24) = false := by rw [decide_eq_false]; omega
  have g1 : decide ((n : Int) < 256) = false := by rw [decide_eq_false]; omega
  have g2 : decide ((n : Int) < 65536) = true := by rw [decide_eq_true]; omega
  have HV0 : Hid (headB m n = [UInt8.ofNat (x + 25)] ++ dg n 2) := Lib.hid (by rw [hx, headB, if_neg (show ¬ n < 24 by omega), if_neg (show ¬ n < 256 by omega), if_pos h2]; rfl)
  clear hn h1 hx h2
  go_enter Tryd.func25, Tryd.ntmps25
  go_wp2_with fail
  clear hx2
  rw [HX.out]
  have hS0 : Below w.heap.size w w.drew := (Below.refl _ _).drew
  refine wp_region_held (S := fun W => Below w.heap.size w W) (by kernel_rfl) ?_
  change wpAnyH _ _ _ _ _ _ _ _ w.drew
  refine takeH 0 rfl rfl (some 28) rfl (.int .u8 (x : Int)) (by kernel_rfl) (by kernel_rfl) (by kernel_rfl) (fun _ _ _ h => h) (fun _ _ => by kernel_rfl) hS0 ?_
  simp only [Act.put, List.setIfInBounds_toArray, List.set_cons_zero, List.set_cons_succ]
  refine takeH 1 rfl rfl (some 29) rfl (.int .u8 ((x + 25 : Nat) : Int)) (by kernel_rfl) (by kernel_rfl) (by kernel_rfl) (fun _ _ _ h => h) (fun _ _ => runAdd8 (.tmp 28) 25 _ rfl x rfl (by omega)) hS0 ?_
  simp only [Act.put, List.setIfInBounds_toArray, List.set_cons_zero, List.set_cons_succ]
  refine takeH 4 rfl rfl (some 32) rfl (.int .u64 (n : Int)) (by kernel_rfl) (by kernel_rfl) (by kernel_rfl) (fun _ _ _ h => h) (fun _ _ => by kernel_rfl) hS0 ?_
  simp only [Act.put, List.setIfInBounds_toArray, List.set_cons_zero, List.set_cons_succ]
  refine twoH 2 5 rfl rfl rfl rfl (by kernel_rfl) (fun K hK => ?_) (fun K hK => ?_)
  · refine wpH_run (some 30) rfl (.slice (some ⟨w.drew.heap.size, 0, none⟩) 1 1) (runBld1 (.tmp 29) rfl (x + 25) rfl) ?_
    simp only [Act.put, List.setIfInBounds_toArray, List.set_cons_zero, List.set_cons_succ]
    have hB : Below w.heap.size w (w.drew.alloc (.cells #[.int .u8 ((x + 25 : Nat) : Int)] 5)) := hS0.alloc hS0.size _
    have hcell : (w.drew.alloc (.cells #[.int .u8 ((x + 25 : Nat) : Int)] 5)).cell? ⟨w.drew.heap.size, 0, none⟩ = some (.int .u8 ((x + 25 : Nat) : Int)) := by rw [cell_of_row _ _ _ _ _ _ (heap_alloc_last w.drew _)]; rfl
    have hlt : w.drew.heap.size < (w.drew.alloc (.cells #[.int .u8 ((x + 25 : Nat) : Int)] 5)).heap.size := lt_of_last
    generalize w.drew.alloc (.cells #[.int .u8 ((x + 25 : Nat) : Int)] 5) = Wb at *
    generalize w.drew.heap.size = g at *
    refine hK _ _ hB fun _ => ?_
    clear hK K
    refine twoH 3 5 rfl rfl rfl rfl (by kernel_rfl) (fun K hK => ?_) (fun K hK => ?_)
    · refine wpH_run (w' := Wb) (some 31) rfl (.string (B [UInt8.ofNat (x + 25)])) (runConv1 (.tmp 30) rfl (x + 25) g rfl hcell) ?_
      simp only [Act.put, List.setIfInBounds_toArray, List.set_cons_zero, List.set_cons_succ]
      refine hK _ _ hB fun _ => ?_
      clear hK K
      refine oneH 5 rfl rfl (by kernel_rfl) fun K hK => ?_
      refine wpH_call (some 33) rfl 28 #[.int .u64 (n : Int), .int .i64 2] (by kernel_rfl) _ _ (digits_any n 2 _ HN.out (by omega)) fun Wc hWc => ?_
      simp only [Act.put, List.setIfInBounds_toArray, List.set_cons_zero, List.set_cons_succ]
      have hC : Below w.heap.size w Wc := hB.trans (hWc.mono hB.size)
      refine hK _ _ hC fun _ => ?_
      clear hK K
      refine takeH 6 rfl rfl (some 34) rfl (.string (B ([UInt8.ofNat (x + 25)] ++ dg n 2))) (by kernel_rfl) (by kernel_rfl) (by kernel_rfl) (fun _ _ _ h => h) (fun _ _ => runCat (.tmp 31) (.tmp 33) _ rfl _ _ rfl rfl (by rw [dg_length]; simp)) hC ?_
      simp only [Act.put, List.setIfInBounds_toArray, List.set_cons_zero, List.set_cons_succ]
      refine takeH 7 rfl rfl (some 4) rfl (.string (B ([UInt8.ofNat (x + 25)] ++ dg n 2))) (by kernel_rfl) (by kernel_rfl) (by kernel_rfl) (fun _ _ _ h => h) (fun _ _ => by kernel_rfl) hC ?_
      simp only [Act.put, List.setIfInBounds_toArray, List.set_cons_zero, List.set_cons_succ]
      refine wpAnyH_done (by kernel_rfl) ?_ _
      have HE := Lib.hid hC
      have HV := HV0
      clear HV0
      generalize [UInt8.ofNat (x + 25)] ++ dg n 2 = R at *
      go_wp2
      go_ret
      exact ⟨by rw [HV.out]; rfl, HE.out⟩
    · refine wpH_call (some 33) rfl 28 #[.int .u64 (n : Int), .int .i64 2] (by kernel_rfl) _ _ (digits_any n 2 _ HN.out (by omega)) fun Wc hWc => ?_
      simp only [Act.put, List.setIfInBounds_toArray, List.set_cons_zero, List.set_cons_succ]
      have hC : Below w.heap.size w Wc := hB.trans (hWc.mono hB.size)
      refine hK _ _ hC fun _ => ?_
      clear hK K
      have hcell2 : Wc.cell? ⟨g, 0, none⟩ = some (.int .u8 ((x + 25 : Nat) : Int)) := by rw [hWc.cell (p := ⟨g, 0, none⟩) hlt]; exact hcell
      refine oneH 3 rfl rfl (by kernel_rfl) fun K hK => ?_
      refine wpH_run (w' := Wc) (some 31) rfl (.string (B [UInt8.ofNat (x + 25)])) (runConv1 (.tmp 30) rfl (x + 25) g rfl hcell2) ?_
      simp only [Act.put, List.setIfInBounds_toArray, List.set_cons_zero, List.set_cons_succ]
      refine hK _ _ hC fun _ => ?_
      clear hK K
      refine takeH 6 rfl rfl (some 34) rfl (.string (B ([UInt8.ofNat (x + 25)] ++ dg n 2))) (by kernel_rfl) (by kernel_rfl) (by kernel_rfl) (fun _ _ _ h => h) (fun _ _ => runCat (.tmp 31) (.tmp 33) _ rfl _ _ rfl rfl (by rw [dg_length]; simp)) hC ?_
      simp only [Act.put, List.setIfInBounds_toArray, List.set_cons_zero, List.set_cons_succ]
      refine takeH 7 rfl rfl (some 4) rfl (.string (B ([UInt8.ofNat (x + 25)] ++ dg n 2))) (by kernel_rfl) (by kernel_rfl) (by kernel_rfl) (fun _ _ _ h => h) (fun _ _ => by kernel_rfl) hC ?_
      simp only [Act.put, List.setIfInBounds_toArray, List.set_cons_zero, List.set_cons_succ]
      refine wpAnyH_done (by kernel_rfl) ?_ _
      have HE := Lib.hid hC
      have HV := HV0
      clear HV0
      generalize [UInt8.ofNat (x + 25)] ++ dg n 2 = R at *
      go_wp2
      go_ret
      exact ⟨by rw [HV.out]; rfl, HE.out⟩
  · refine wpH_call (some 33) rfl 28 #[.int .u64 (n : Int), .int .i64 2] (by kernel_rfl) _ _ (digits_any n 2 _ HN.out (by omega)) fun Wc hWc => ?_
    simp only [Act.put, List.setIfInBounds_toArray, List.set_cons_zero, List.set_cons_succ]
    have hC : Below w.heap.size w Wc := hS0.trans (hWc.mono hS0.size)
    refine hK _ _ hC fun _ => ?_
    clear hK K
    refine oneH 2 rfl rfl (by kernel_rfl) fun K hK => ?_
    refine wpH_run (some 30) rfl (.slice (some ⟨Wc.heap.size, 0, none⟩) 1 1) (runBld1 (.tmp 29) rfl (x + 25) rfl) ?_
    simp only [Act.put, List.setIfInBounds_toArray, List.set_cons_zero, List.set_cons_succ]
    have hB : Below w.heap.size w (Wc.alloc (.cells #[.int .u8 ((x + 25 : Nat) : Int)] 5)) := hC.alloc hC.size _
    have hcell : (Wc.alloc (.cells #[.int .u8 ((x + 25 : Nat) : Int)] 5)).cell? ⟨Wc.heap.size, 0, none⟩ = some (.int .u8 ((x + 25 : Nat) : Int)) := by rw [cell_of_row _ _ _ _ _ _ (heap_alloc_last Wc _)]; rfl
    have hlt : Wc.heap.size < (Wc.alloc (.cells #[.int .u8 ((x + 25 : Nat) : Int)] 5)).heap.size := lt_of_last
    generalize Wc.alloc (.cells #[.int .u8 ((x + 25 : Nat) : Int)] 5) = Wb at *
    generalize Wc.heap.size = g at *
    refine hK _ _ hB fun _ => ?_
    clear hK K
    refine oneH 3 rfl rfl (by kernel_rfl) fun K hK => ?_
    refine wpH_run (w' := Wb) (some 31) rfl (.string (B [UInt8.ofNat (x + 25)])) (runConv1 (.tmp 30) rfl (x + 25) g rfl hcell) ?_
    simp only [Act.put, List.setIfInBounds_toArray, List.set_cons_zero, List.set_cons_succ]
    refine hK _ _ hB fun _ => ?_
    clear hK K
    refine takeH 6 rfl rfl (some 34) rfl (.string (B ([UInt8.ofNat (x + 25)] ++ dg n 2))) (by kernel_rfl) (by kernel_rfl) (by kernel_rfl) (fun _ _ _ h => h) (fun _ _ => runCat (.tmp 31) (.tmp 33) _ rfl _ _ rfl rfl (by rw [dg_length]; simp)) hB ?_
    simp only [Act.put, List.setIfInBounds_toArray, List.set_cons_zero, List.set_cons_succ]
    refine takeH 7 rfl rfl (some 4) rfl (.string (B ([UInt8.ofNat (x + 25)] ++ dg n 2))) (by kernel_rfl) (by kernel_rfl) (by kernel_rfl) (fun _ _ _ h => h) (fun _ _ => by kernel_rfl) hB ?_
    simp only [Act.put, List.setIfInBounds_toArray, List.set_cons_zero, List.set_cons_succ]
    refine wpAnyH_done (by kernel_rfl) ?_ _
    have HE := Lib.hid hB
    have HV := HV0
    clear HV0
    generalize [UInt8.ofNat (x + 25)] ++ dg n 2 = R at *
    go_wp2
    go_ret
    exact ⟨by rw [HV.out]; rfl, HE.out⟩
set_option maxHeartbeats 3200000 in
set_option maxRecDepth 100000 in
theorem Head_3 (m n : Nat) (w : World) (hm : m ≤ 7) (hn : n < W64) (h1 : 65536 ≤ n) (h2 : n < 4294967296) : Calls Tryd.prog 25 #[.int .i64 m, .int .u64 n] w fun e w' => e = .returned (.string (B (headB m n))) ∧ Below w.heap.size w w' := by
  obtain ⟨x, hx⟩ : ∃ x, x = 32 * m := ⟨_, rfl⟩
  have hx256 : x ≤ 224 := by omega
  have hm8 : (m : Int) ≤ 7 := by omega
  have hx2 : (32 * (m : Int)) % 256 = 32 * (m : Int) := by omega
  have HX : Hid (32 * (m : Int) = (x : Int)) := Lib.hid (by omega)
  have HN := Lib.hid hn
  have g0 : decide ((n : Int) < 24) = false := by rw [decide_eq_false]; omega
  have g1 : decide ((n : Int) < 256) = false := by rw [decide_eq_false]; omega
  have g2 : decide ((n : Int) < 65536) = false := by rw [decide_eq_false]; omega
  have g3 : decide ((n : Int) < 4294967296) = true := by rw [decide_eq_true]; omega
  have HV0 : Hid (headB m n = [UInt8.ofNat (x + 26)] ++ dg n 4) := Lib.hid (by rw [hx, headB, if_neg (show ¬ n < 24 by omega), if_neg (show ¬ n < 256 by omega), if_neg (show ¬ n < 65536 by omega), if_pos h2]; rfl)
  clear hn h1 hx h2
  go_enter Tryd.func25, Tryd.ntmps25
  go_wp2_with fail
  clear hx2
  rw [HX.out]
  have hS0 : Below w.heap.size w w.drew := (Below.refl _ _).drew
  refine wp_region_held (S := fun W => Below w.heap.size w W) (by kernel_rfl) ?_
  change wpAnyH _ _ _ _ _ _ _ _ w.drew
  refine takeH 0 rfl rfl (some 37) rfl (.int .u8 (x : Int)) (by kernel_rfl) (by kernel_rfl) (by kernel_rfl) (fun _ _ _ h => h) (fun _ _ => by kernel_rfl) hS0 ?_
  simp only [Act.put, List.setIfInBounds_toArray, List.set_cons_zero, List.set_cons_succ]
  refine takeH 1 rfl rfl (some 38) rfl (.int .u8 ((x + 26 : Nat) : Int)) (by kernel_rfl) (by kernel_rfl) (by kernel_rfl) (fun _ _ _ h => h) (fun _ _ => runAdd8 (.tmp 37) 26 _ rfl x rfl (by omega)) hS0 ?_
  simp only [Act.put, List.setIfInBounds_toArray, List.set_cons_zero, List.set_cons_succ]
  refine takeH 4 rfl rfl (some 41) rfl (.int .u64 (n : Int)) (by kernel_rfl) (by kernel_rfl) (by kernel_rfl) (fun _ _ _ h => h) (fun _ _ => by kernel_rfl) hS0 ?_
  simp only [Act.put, List.setIfInBounds_toArray, List.set_cons_zero, List.set_cons_succ]
  refine twoH 2 5 rfl rfl rfl rfl (by kernel_rfl) (fun K hK => ?_) (fun K hK => ?_)
  · refine wpH_run (some 39) rfl (.slice (some ⟨w.drew.heap.size, 0, none⟩) 1 1) (runBld1 (.tmp 38) rfl (x + 26) rfl) ?_
    simp only [Act.put, List.setIfInBounds_toArray, List.set_cons_zero, List.set_cons_succ]
    have hB : Below w.heap.size w (w.drew.alloc (.cells #[.int .u8 ((x + 26 : Nat) : Int)] 5)) := hS0.alloc hS0.size _
    have hcell : (w.drew.alloc (.cells #[.int .u8 ((x + 26 : Nat) : Int)] 5)).cell? ⟨w.drew.heap.size, 0, none⟩ = some (.int .u8 ((x + 26 : Nat) : Int)) := by rw [cell_of_row _ _ _ _ _ _ (heap_alloc_last w.drew _)]; rfl
    have hlt : w.drew.heap.size < (w.drew.alloc (.cells #[.int .u8 ((x + 26 : Nat) : Int)] 5)).heap.size := lt_of_last
    generalize w.drew.alloc (.cells #[.int .u8 ((x + 26 : Nat) : Int)] 5) = Wb at *
    generalize w.drew.heap.size = g at *
    refine hK _ _ hB fun _ => ?_
    clear hK K
    refine twoH 3 5 rfl rfl rfl rfl (by kernel_rfl) (fun K hK => ?_) (fun K hK => ?_)
    · refine wpH_run (w' := Wb) (some 40) rfl (.string (B [UInt8.ofNat (x + 26)])) (runConv1 (.tmp 39) rfl (x + 26) g rfl hcell) ?_
      simp only [Act.put, List.setIfInBounds_toArray, List.set_cons_zero, List.set_cons_succ]
      refine hK _ _ hB fun _ => ?_
      clear hK K
      refine oneH 5 rfl rfl (by kernel_rfl) fun K hK => ?_
      refine wpH_call (some 42) rfl 28 #[.int .u64 (n : Int), .int .i64 4] (by kernel_rfl) _ _ (digits_any n 4 _ HN.out (by omega)) fun Wc hWc => ?_
      simp only [Act.put, List.setIfInBounds_toArray, List.set_cons_zero, List.set_cons_succ]
      have hC : Below w.heap.size w Wc := hB.trans (hWc.mono hB.size)
      refine hK _ _ hC fun _ => ?_
      clear hK K
      refine takeH 6 rfl rfl (some 43) rfl (.string (B ([UInt8.ofNat (x + 26)] ++ dg n 4))) (by kernel_rfl) (by kernel_rfl) (by kernel_rfl) (fun _ _ _ h => h) (fun _ _ => runCat (.tmp 40) (.tmp 42) _ rfl _ _ rfl rfl (by rw [dg_length]; simp)) hC ?_
      simp only [Act.put, List.setIfInBounds_toArray, List.set_cons_zero, List.set_cons_succ]
      refine takeH 7 rfl rfl (some 4) rfl (.string (B ([UInt8.ofNat (x + 26)] ++ dg n 4))) (by kernel_rfl) (by kernel_rfl) (by kernel_rfl) (fun _ _ _ h => h) (fun _ _ => by kernel_rfl) hC ?_
      simp only [Act.put, List.setIfInBounds_toArray, List.set_cons_zero, List.set_cons_succ]
      refine wpAnyH_done (by kernel_rfl) ?_ _
      have HE := Lib.hid hC
      have HV := HV0
      clear HV0
      generalize [UInt8.ofNat (x + 26)] ++ dg n 4 = R at *
      go_wp2
      go_ret
      exact ⟨by rw [HV.out]; rfl, HE.out⟩
    · refine wpH_call (some 42) rfl 28 #[.int .u64 (n : Int), .int .i64 4] (by kernel_rfl) _ _ (digits_any n 4 _ HN.out (by omega)) fun Wc hWc => ?_
      simp only [Act.put, List.setIfInBounds_toArray, List.set_cons_zero, List.set_cons_succ]
      have hC : Below w.heap.size w Wc := hB.trans (hWc.mono hB.size)
      refine hK _ _ hC fun _ => ?_
      clear hK K
      have hcell2 : Wc.cell? ⟨g, 0, none⟩ = some (.int .u8 ((x + 26 : Nat) : Int)) := by rw [hWc.cell (p := ⟨g, 0, none⟩) hlt]; exact hcell
      refine oneH 3 rfl rfl (by kernel_rfl) fun K hK => ?_
      refine wpH_run (w' := Wc) (some 40) rfl (.string (B [UInt8.ofNat (x + 26)])) (runConv1 (.tmp 39) rfl (x + 26) g rfl hcell2) ?_
      simp only [Act.put, List.setIfInBounds_toArray, List.set_cons_zero, List.set_cons_succ]
      refine hK _ _ hC fun _ => ?_
      clear hK K
      refine takeH 6 rfl rfl (some 43) rfl (.string (B ([UInt8.ofNat (x + 26)] ++ dg n 4))) (by kernel_rfl) (by kernel_rfl) (by kernel_rfl) (fun _ _ _ h => h) (fun _ _ => runCat (.tmp 40) (.tmp 42) _ rfl _ _ rfl rfl (by rw [dg_length]; simp)) hC ?_
      simp only [Act.put, List.setIfInBounds_toArray, List.set_cons_zero, List.set_cons_succ]
      refine takeH 7 rfl rfl (some 4) rfl (.string (B ([UInt8.ofNat (x + 26)] ++ dg n 4))) (by kernel_rfl) (by kernel_rfl) (by kernel_rfl) (fun _ _ _ h => h) (fun _ _ => by kernel_rfl) hC ?_
      simp only [Act.put, List.setIfInBounds_toArray, List.set_cons_zero, List.set_cons_succ]
      refine wpAnyH_done (by kernel_rfl) ?_ _
      have HE := Lib.hid hC
      have HV := HV0
      clear HV0
      generalize [UInt8.ofNat (x + 26)] ++ dg n 4 = R at *
      go_wp2
      go_ret
      exact ⟨by rw [HV.out]; rfl, HE.out⟩
  · refine wpH_call (some 42) rfl 28 #[.int .u64 (n : Int), .int .i64 4] (by kernel_rfl) _ _ (digits_any n 4 _ HN.out (by omega)) fun Wc hWc => ?_
    simp only [Act.put, List.setIfInBounds_toArray, List.set_cons_zero, List.set_cons_succ]
    have hC : Below w.heap.size w Wc := hS0.trans (hWc.mono hS0.size)
    refine hK _ _ hC fun _ => ?_
    clear hK K
    refine oneH 2 rfl rfl (by kernel_rfl) fun K hK => ?_
    refine wpH_run (some 39) rfl (.slice (some ⟨Wc.heap.size, 0, none⟩) 1 1) (runBld1 (.tmp 38) rfl (x + 26) rfl) ?_
    simp only [Act.put, List.setIfInBounds_toArray, List.set_cons_zero, List.set_cons_succ]
    have hB : Below w.heap.size w (Wc.alloc (.cells #[.int .u8 ((x + 26 : Nat) : Int)] 5)) := hC.alloc hC.size _
    have hcell : (Wc.alloc (.cells #[.int .u8 ((x + 26 : Nat) : Int)] 5)).cell? ⟨Wc.heap.size, 0, none⟩ = some (.int .u8 ((x + 26 : Nat) : Int)) := by rw [cell_of_row _ _ _ _ _ _ (heap_alloc_last Wc _)]; rfl
    have hlt : Wc.heap.size < (Wc.alloc (.cells #[.int .u8 ((x + 26 : Nat) : Int)] 5)).heap.size := lt_of_last
    generalize Wc.alloc (.cells #[.int .u8 ((x + 26 : Nat) : Int)] 5) = Wb at *
    generalize Wc.heap.size = g at *
    refine hK _ _ hB fun _ => ?_
    clear hK K
    refine oneH 3 rfl rfl (by kernel_rfl) fun K hK => ?_
    refine wpH_run (w' := Wb) (some 40) rfl (.string (B [UInt8.ofNat (x + 26)])) (runConv1 (.tmp 39) rfl (x + 26) g rfl hcell) ?_
    simp only [Act.put, List.setIfInBounds_toArray, List.set_cons_zero, List.set_cons_succ]
    refine hK _ _ hB fun _ => ?_
    clear hK K
    refine takeH 6 rfl rfl (some 43) rfl (.string (B ([UInt8.ofNat (x + 26)] ++ dg n 4))) (by kernel_rfl) (by kernel_rfl) (by kernel_rfl) (fun _ _ _ h => h) (fun _ _ => runCat (.tmp 40) (.tmp 42) _ rfl _ _ rfl rfl (by rw [dg_length]; simp)) hB ?_
    simp only [Act.put, List.setIfInBounds_toArray, List.set_cons_zero, List.set_cons_succ]
    refine takeH 7 rfl rfl (some 4) rfl (.string (B ([UInt8.ofNat (x + 26)] ++ dg n 4))) (by kernel_rfl) (by kernel_rfl) (by kernel_rfl) (fun _ _ _ h => h) (fun _ _ => by kernel_rfl) hB ?_
    simp only [Act.put, List.setIfInBounds_toArray, List.set_cons_zero, List.set_cons_succ]
    refine wpAnyH_done (by kernel_rfl) ?_ _
    have HE := Lib.hid hB
    have HV := HV0
    clear HV0
    generalize [UInt8.ofNat (x + 26)] ++ dg n 4 = R at *
    go_wp2
    go_ret
    exact ⟨by rw [HV.out]; rfl, HE.out⟩
set_option maxHeartbeats 3200000 in
set_option maxRecDepth 100000 in
theorem Head_4 (m n : Nat) (w : World) (hm : m ≤ 7) (hn : n < W64) (h1 : 4294967296 ≤ n) : Calls Tryd.prog 25 #[.int .i64 m, .int .u64 n] w fun e w' => e = .returned (.string (B (headB m n))) ∧ Below w.heap.size w w' := by
  obtain ⟨x, hx⟩ : ∃ x, x = 32 * m := ⟨_, rfl⟩
  have hx256 : x ≤ 224 := by omega
  have hm8 : (m : Int) ≤ 7 := by omega
  have hx2 : (32 * (m : Int)) % 256 = 32 * (m : Int) := by omega
  have HX : Hid (32 * (m : Int) = (x : Int)) := Lib.hid (by omega)
  have HN := Lib.hid hn
  have g0 : decide ((n : Int) < 24) = false := by rw [decide_eq_false]; omega
  have g1 : decide ((n : Int) < 256) = false := by rw [decide_eq_false]; omega
  have g2 : decide ((n : Int) < 65536) = false := by rw [decide_eq_false]; omega
  have g3 : decide ((n : Int) < 4294967296) = false := by rw [decide_eq_false]; omega
  have HV0 : Hid (headB m n = [UInt8.ofNat (x + 27)] ++ dg n 8) := Lib.hid (by rw [hx, headB, if_neg (show ¬ n < 24 by omega), if_neg (show ¬ n < 256 by omega), if_neg (show ¬ n < 65536 by omega), if_neg (show ¬ n < 4294967296 by omega)]; rfl)
  clear hn h1 hx
  go_enter Tryd.func25, Tryd.ntmps25
  go_wp2_with fail
  clear hx2
  rw [HX.out]
  have hS0 : Below w.heap.size w w.drew := (Below.refl _ _).drew
  refine wp_region_held (S := fun W => Below w.heap.size w W) (by kernel_rfl) ?_
  change wpAnyH _ _ _ _ _ _ _ _ w.drew
  refine takeH 0 rfl rfl (some 44) rfl (.int .u8 (x : Int)) (by kernel_rfl) (by kernel_rfl) (by kernel_rfl) (fun _ _ _ h => h) (fun _ _ => by kernel_rfl) hS0 ?_
  simp only [Act.put, List.setIfInBounds_toArray, List.set_cons_zero, List.set_cons_succ]
  refine takeH 1 rfl rfl (some 45) rfl (.int .u8 ((x + 27 : Nat) : Int)) (by kernel_rfl) (by kernel_rfl) (by kernel_rfl) (fun _ _ _ h => h) (fun _ _ => runAdd8 (.tmp 44) 27 _ rfl x rfl (by omega)) hS0 ?_
  simp only [Act.put, List.setIfInBounds_toArray, List.set_cons_zero, List.set_cons_succ]
  refine takeH 4 rfl rfl (some 48) rfl (.int .u64 (n : Int)) (by kernel_rfl) (by kernel_rfl) (by kernel_rfl) (fun _ _ _ h => h) (fun _ _ => by kernel_rfl) hS0 ?_
  simp only [Act.put, List.setIfInBounds_toArray, List.set_cons_zero, List.set_cons_succ]
  refine twoH 2 5 rfl rfl rfl rfl (by kernel_rfl) (fun K hK => ?_) (fun K hK => ?_)
  · refine wpH_run (some 46) rfl (.slice (some ⟨w.drew.heap.size, 0, none⟩) 1 1) (runBld1 (.tmp 45) rfl (x + 27) rfl) ?_
    simp only [Act.put, List.setIfInBounds_toArray, List.set_cons_zero, List.set_cons_succ]
    have hB : Below w.heap.size w (w.drew.alloc (.cells #[.int .u8 ((x + 27 : Nat) : Int)] 5)) := hS0.alloc hS0.size _
    have hcell : (w.drew.alloc (.cells #[.int .u8 ((x + 27 : Nat) : Int)] 5)).cell? ⟨w.drew.heap.size, 0, none⟩ = some (.int .u8 ((x + 27 : Nat) : Int)) := by rw [cell_of_row _ _ _ _ _ _ (heap_alloc_last w.drew _)]; rfl
    have hlt : w.drew.heap.size < (w.drew.alloc (.cells #[.int .u8 ((x + 27 : Nat) : Int)] 5)).heap.size := lt_of_last
    generalize w.drew.alloc (.cells #[.int .u8 ((x + 27 : Nat) : Int)] 5) = Wb at *
    generalize w.drew.heap.size = g at *
    refine hK _ _ hB fun _ => ?_
    clear hK K
    refine twoH 3 5 rfl rfl rfl rfl (by kernel_rfl) (fun K hK => ?_) (fun K hK => ?_)
    · refine wpH_run (w' := Wb) (some 47) rfl (.string (B [UInt8.ofNat (x + 27)])) (runConv1 (.tmp 46) rfl (x + 27) g rfl hcell) ?_
      simp only [Act.put, List.setIfInBounds_toArray, List.set_cons_zero, List.set_cons_succ]
      refine hK _ _ hB fun _ => ?_
      clear hK K
      refine oneH 5 rfl rfl (by kernel_rfl) fun K hK => ?_
      refine wpH_call (some 49) rfl 28 #[.int .u64 (n : Int), .int .i64 8] (by kernel_rfl) _ _ (digits_any n 8 _ HN.out (by omega)) fun Wc hWc => ?_
      simp only [Act.put, List.setIfInBounds_toArray, List.set_cons_zero, List.set_cons_succ]
      have hC : Below w.heap.size w Wc := hB.trans (hWc.mono hB.size)
      refine hK _ _ hC fun _ => ?_
      clear hK K
      refine takeH 6 rfl rfl (some 50) rfl (.string (B ([UInt8.ofNat (x + 27)] ++ dg n 8))) (by kernel_rfl) (by kernel_rfl) (by kernel_rfl) (fun _ _ _ h => h) (fun _ _ => runCat (.tmp 47) (.tmp 49) _ rfl _ _ rfl rfl (by rw [dg_length]; simp)) hC ?_
      simp only [Act.put, List.setIfInBounds_toArray, List.set_cons_zero, List.set_cons_succ]
      refine takeH 7 rfl rfl (some 4) rfl (.string (B ([UInt8.ofNat (x + 27)] ++ dg n 8))) (by kernel_rfl) (by kernel_rfl) (by kernel_rfl) (fun _ _ _ h => h) (fun _ _ => by kernel_rfl) hC ?_
      simp only [Act.put, List.setIfInBounds_toArray, List.set_cons_zero, List.set_cons_succ]
      refine wpAnyH_done (by kernel_rfl) ?_ _
      have HE := Lib.hid hC
      have HV := HV0
      clear HV0
      generalize [UInt8.ofNat (x + 27)] ++ dg n 8 = R at *
      go_wp2
      go_ret
      exact ⟨by rw [HV.out]; rfl, HE.out⟩
    · refine wpH_call (some 49) rfl 28 #[.int .u64 (n : Int), .int .i64 8] (by kernel_rfl) _ _ (digits_any n 8 _ HN.out (by omega)) fun Wc hWc => ?_
      simp only [Act.put, List.setIfInBounds_toArray, List.set_cons_zero, List.set_cons_succ]
      have hC : Below w.heap.size w Wc := hB.trans (hWc.mono hB.size)
      refine hK _ _ hC fun _ => ?_
      clear hK K
      have hcell2 : Wc.cell? ⟨g, 0, none⟩ = some (.int .u8 ((x + 27 : Nat) : Int)) := by rw [hWc.cell (p := ⟨g, 0, none⟩) hlt]; exact hcell
      refine oneH 3 rfl rfl (by kernel_rfl) fun K hK => ?_
      refine wpH_run (w' := Wc) (some 47) rfl (.string (B [UInt8.ofNat (x + 27)])) (runConv1 (.tmp 46) rfl (x + 27) g rfl hcell2) ?_
      simp only [Act.put, List.setIfInBounds_toArray, List.set_cons_zero, List.set_cons_succ]
      refine hK _ _ hC fun _ => ?_
      clear hK K
      refine takeH 6 rfl rfl (some 50) rfl (.string (B ([UInt8.ofNat (x + 27)] ++ dg n 8))) (by kernel_rfl) (by kernel_rfl) (by kernel_rfl) (fun _ _ _ h => h) (fun _ _ => runCat (.tmp 47) (.tmp 49) _ rfl _ _ rfl rfl (by rw [dg_length]; simp)) hC ?_
      simp only [Act.put, List.setIfInBounds_toArray, List.set_cons_zero, List.set_cons_succ]
      refine takeH 7 rfl rfl (some 4) rfl (.string (B ([UInt8.ofNat (x + 27)] ++ dg n 8))) (by kernel_rfl) (by kernel_rfl) (by kernel_rfl) (fun _ _ _ h => h) (fun _ _ => by kernel_rfl) hC ?_
      simp only [Act.put, List.setIfInBounds_toArray, List.set_cons_zero, List.set_cons_succ]
      refine wpAnyH_done (by kernel_rfl) ?_ _
      have HE := Lib.hid hC
      have HV := HV0
      clear HV0
      generalize [UInt8.ofNat (x + 27)] ++ dg n 8 = R at *
      go_wp2
      go_ret
      exact ⟨by rw [HV.out]; rfl, HE.out⟩
  · refine wpH_call (some 49) rfl 28 #[.int .u64 (n : Int), .int .i64 8] (by kernel_rfl) _ _ (digits_any n 8 _ HN.out (by omega)) fun Wc hWc => ?_
    simp only [Act.put, List.setIfInBounds_toArray, List.set_cons_zero, List.set_cons_succ]
    have hC : Below w.heap.size w Wc := hS0.trans (hWc.mono hS0.size)
    refine hK _ _ hC fun _ => ?_
    clear hK K
    refine oneH 2 rfl rfl (by kernel_rfl) fun K hK => ?_
    refine wpH_run (some 46) rfl (.slice (some ⟨Wc.heap.size, 0, none⟩) 1 1) (runBld1 (.tmp 45) rfl (x + 27) rfl) ?_
    simp only [Act.put, List.setIfInBounds_toArray, List.set_cons_zero, List.set_cons_succ]
    have hB : Below w.heap.size w (Wc.alloc (.cells #[.int .u8 ((x + 27 : Nat) : Int)] 5)) := hC.alloc hC.size _
    have hcell : (Wc.alloc (.cells #[.int .u8 ((x + 27 : Nat) : Int)] 5)).cell? ⟨Wc.heap.size, 0, none⟩ = some (.int .u8 ((x + 27 : Nat) : Int)) := by rw [cell_of_row _ _ _ _ _ _ (heap_alloc_last Wc _)]; rfl
    have hlt : Wc.heap.size < (Wc.alloc (.cells #[.int .u8 ((x + 27 : Nat) : Int)] 5)).heap.size := lt_of_last
    generalize Wc.alloc (.cells #[.int .u8 ((x + 27 : Nat) : Int)] 5) = Wb at *
    generalize Wc.heap.size = g at *
    refine hK _ _ hB fun _ => ?_
    clear hK K
    refine oneH 3 rfl rfl (by kernel_rfl) fun K hK => ?_
    refine wpH_run (w' := Wb) (some 47) rfl (.string (B [UInt8.ofNat (x + 27)])) (runConv1 (.tmp 46) rfl (x + 27) g rfl hcell) ?_
    simp only [Act.put, List.setIfInBounds_toArray, List.set_cons_zero, List.set_cons_succ]
    refine hK _ _ hB fun _ => ?_
    clear hK K
    refine takeH 6 rfl rfl (some 50) rfl (.string (B ([UInt8.ofNat (x + 27)] ++ dg n 8))) (by kernel_rfl) (by kernel_rfl) (by kernel_rfl) (fun _ _ _ h => h) (fun _ _ => runCat (.tmp 47) (.tmp 49) _ rfl _ _ rfl rfl (by rw [dg_length]; simp)) hB ?_
    simp only [Act.put, List.setIfInBounds_toArray, List.set_cons_zero, List.set_cons_succ]
    refine takeH 7 rfl rfl (some 4) rfl (.string (B ([UInt8.ofNat (x + 27)] ++ dg n 8))) (by kernel_rfl) (by kernel_rfl) (by kernel_rfl) (fun _ _ _ h => h) (fun _ _ => by kernel_rfl) hB ?_
    simp only [Act.put, List.setIfInBounds_toArray, List.set_cons_zero, List.set_cons_succ]
    refine wpAnyH_done (by kernel_rfl) ?_ _
    have HE := Lib.hid hB
    have HV := HV0
    clear HV0
    generalize [UInt8.ofNat (x + 27)] ++ dg n 8 = R at *
    go_wp2
    go_ret
    exact ⟨by rw [HV.out]; rfl, HE.out⟩
set_option maxRecDepth 100000 in
theorem Head_0 (m n : Nat) (w : World) (hm : m ≤ 7) (h1 : n < 24) : Calls Tryd.prog 25 #[.int .i64 m, .int .u64 n] w fun e w' => e = .returned (.string (B (headB m n))) ∧ Below w.heap.size w w' := by
  have hh : headB m n = [UInt8.ofNat (32 * m + n)] := by unfold headB; rw [if_pos h1]
  rw [hh]
  obtain ⟨x, hx⟩ : ∃ x, x = 32 * m + n := ⟨_, rfl⟩
  have hm8 : (m : Int) ≤ 7 := by omega
  have hxx : (32 * (m : Int)) % 256 = 32 * (m : Int) := by omega
  have hcv := conv1 w x 5
  have hs : (32 * (m : Int) + (n : Int)) % 256 = (x : Int) := by omega
  have hs2 : 32 * (m : Int) + (n : Int) = (x : Int) := by omega
  have hnn : (n : Int) % 256 = (n : Int) := by omega
  rw [← hx]
  clear hh hx
  go_enter Tryd.func25, Tryd.ntmps25
  go_wp2
  go_ret
  exact ⟨rfl, by ((repeat' (with_reducible first | exact Below.refl _ _ | assumption | refine Below.drew ?_ | refine below_drewN ?_ _ | refine Below.setCell ?_ ?_ _ | refine Below.alloc ?_ ?_ _ | refine Below.ext ?_ ?_ _ | refine Below.trans ?_ (Below.mono ‹_› ?_))) <;> first | omega | (simp; done) | (simp; omega))⟩
theorem Head_any (m n : Nat) (w : World) (hm : m ≤ 7) (hn : n < W64) : Calls Tryd.prog 25 #[.int .i64 m, .int .u64 n] w fun e w' => e = .returned (.string (B (headB m n))) ∧ Below w.heap.size w w' := by
  by_cases h0 : n < 24
  · exact Head_0 m n w hm h0
  · by_cases h1 : n < 256
    · exact Head_1 m n w hm hn (by omega) h1
    · by_cases h2 : n < 65536
      · exact Head_2 m n w hm hn (by omega) h2
      · by_cases h3 : n < 4294967296
        · exact Head_3 m n w hm hn (by omega) h3
        · exact Head_4 m n w hm hn (by omega)
end Go.Proofs.YthoickghfjgmmaaDoor.Itm
