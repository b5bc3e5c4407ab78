/-
  The walks of the reference's Text and of eid.Text.
  Conditions: the table of powers holds what the program's text lays.
-/
import Derived.Test.YtlbpodddokhmaaaDoorFmt
import Derived.Test.YtlbpodddokhmaaaDoorItm9
namespace Go.Proofs.YtlbpodddokhmaaaDoor.Fmt
open Go.ChangeShapes Go.WideShapes Go.ChangeAt Go.RowKit Go.Deep Go.Lib Go.Proofs.YtlbpodddokhmaaaDoor.Itm Go.Proofs.YtlbpodddokhmaaaDoor.Eid
def textB (s : Int) (l : List UInt8) (n v : Nat) : List UInt8 := if s = 1 then [100, 116, 110, 58] ++ l else (([105, 112, 110, 58] ++ decDigits n) ++ [46]) ++ decDigits v
set_option maxHeartbeats 1600000 in
set_option maxRecDepth 100000 in
theorem rText_any (s : Int) (l : List UInt8) (n v : Nat) (w : World) (hl : l.length ≤ 1000) (hn : n < W64) (hv : v < W64) : Calls Tryd.prog 18 #[.agg #[.int .i64 s, .string (B l), .int .u64 n, .int .u64 v]] w fun e w' => e = .returned (.string (B (textB s l n v))) ∧ Below w.heap.size w w' := by
  by_cases hs : s = 1
  · have hT : textB s l n v = [100, 116, 110, 58] ++ l := by unfold textB; rw [if_pos hs]
    have HT := Lib.hid hT
    subst hs
    clear hT hn hv
    go_enter Tryd.func18, Tryd.ntmps18
    go_wp2
    go_ret
    exact ⟨by rw [HT.out]; rfl, by ((repeat' (with_reducible first | exact Below.refl _ _ | assumption | refine Below.drew ?_ | refine below_drewN ?_ _ | refine Below.setCell ?_ ?_ _ | refine Below.alloc ?_ ?_ _ | refine Below.ext ?_ ?_ _ | refine Below.trans ?_ (Below.mono ‹_› ?_))) <;> first | omega | (simp; done) | (simp; omega))⟩
  · have hT : textB s l n v = (([105, 112, 110, 58] ++ decDigits n) ++ [46]) ++ decDigits v := by unfold textB; rw [if_neg hs]
    have HT := Lib.hid hT
    have hDn := dec_len20 hn
    have hDv := dec_len20 hv
    have HDN0 := Lib.hid fun W : World => Digits_any n hn W
    have HDV0 := Lib.hid fun W : World => Digits_any v hv W
    clear hn hv hT
    generalize decDigits n = Dn at *
    generalize decDigits v = Dv at *
    go_enter Tryd.func18, Tryd.ntmps18
    obtain ⟨w1, hw1⟩ : ∃ w1, w.alloc (.cells #[.int .i64 s, .string (B l), .int .u64 n, .int .u64 v] 25) = w1 := ⟨_, rfl⟩
    have gb : Below w.heap.size w w1 := by rw [← hw1]; exact (Below.refl _ _).alloc (Nat.le_refl _) _
    have hz0 : w.heap.size < w1.heap.size := by rw [← hw1]; exact lt_of_last
    have q0 : w1.heap[w.heap.size]? = some (.cells #[.int .i64 s, .string (B l), .int .u64 n, .int .u64 v] 25 (0, 0)) := by rw [← hw1]; exact heap_alloc_last w _
    have c0 : w1.cell? ⟨w.heap.size, 0, none⟩ = some (.int .i64 s) := by rw [cell_of_row _ _ _ _ _ _ q0]; rfl
    have c2 : w1.cell? ⟨w.heap.size, 2, none⟩ = some (.int .u64 n) := by rw [cell_of_row _ _ _ _ _ _ q0]; rfl
    have c3 : w1.cell? ⟨w.heap.size, 3, none⟩ = some (.int .u64 v) := by rw [cell_of_row _ _ _ _ _ _ q0]; rfl
    have GB := Lib.hid gb
    have HDN := Lib.hid fun (W : World) (_ : Below w1.heap.size w1 W) => HDN0.out W
    have HDV := Lib.hid fun (W : World) (_ : Below w1.heap.size w1 W) => HDV0.out W
    clear q0 gb HDN0 HDV0
    go_wp2_with fail
    clear hw1
    have hEr : ∀ W : World, (fun W W' => Below W.heap.size W W') W W := fun W => Below.refl _ _
    refine wp_region_rel 9 1 0 (fun W => Below w1.heap.size w1 W) [9, 10, 11, 12, 13, 14, 15, 16, 17] (relAt [fun zv _ => zv = .pointer (some ⟨w.heap.size, 2, none⟩), fun zv _ => zv = .int .u64 (n : Nat), fun zv _ => zv = .string (B Dn), fun zv _ => zv = .string (B ([105, 112, 110, 58] ++ Dn)), fun zv _ => zv = .string (B (([105, 112, 110, 58] ++ Dn) ++ [46])), fun zv _ => zv = .pointer (some ⟨w.heap.size, 3, none⟩), fun zv _ => zv = .int .u64 (v : Nat), fun zv _ => zv = .string (B Dv), fun zv _ => zv = .string (B ((([105, 112, 110, 58] ++ Dn) ++ [46]) ++ Dv))]) (fun W W' => Below W.heap.size W W') (by kernel_rfl) rfl rfl (by kernel_rfl) (by kernel_rfl) (by kernel_rfl) (by kernel_rfl) (Mono.at ⟨fun _ _ _ _ h => h, fun _ _ _ _ h => h, fun _ _ _ _ h => h, fun _ _ _ _ h => h, fun _ _ _ _ h => h, fun _ _ _ _ h => h, fun _ _ _ _ h => h, fun _ _ _ _ h => h, fun _ _ _ _ h => h, trivial⟩) ((Below.refl _ _).drew) ⟨?_, ?_, ?_, ?_, ?_, ?_, ?_, ?_, ?_, trivial⟩ ?_
    · refine relQuiet 0 rfl rfl hEr (.pointer (some ⟨w.heap.size, 2, none⟩)) (fun _ => rfl) fun u wq hS hd => ?_
      simp only [fillL, Act.put, List.setIfInBounds_toArray, List.set_cons_zero, List.set_cons_succ]
      first | kernel_rfl | (show _ = _; kernel_rfl)
    · refine relQuiet 1 rfl rfl hEr (.int .u64 (n : Nat)) (fun _ => rfl) fun u wq hS hd => ?_
      have h0 : u 0 = .pointer (some ⟨w.heap.size, 2, none⟩) := hd 0 (by kernel_rfl)
      simp only [fillL, Act.put, List.setIfInBounds_toArray, List.set_cons_zero, List.set_cons_succ, h0]
      exact runLdU64 (.tmp 9) rfl ⟨w.heap.size, 2, none⟩ rfl _ (by rw [hS.cell (p := ⟨w.heap.size, 2, none⟩) hz0]; exact c2)
    · refine relCall 2 rfl rfl 30 fun u wq hS hd => ?_
      have h1 : u 1 = .int .u64 (n : Nat) := hd 1 (by kernel_rfl)
      simp only [fillL, Act.put, List.setIfInBounds_toArray, List.set_cons_zero, List.set_cons_succ, h1]
      refine ⟨#[.int .u64 (n : Nat)], by kernel_rfl, ?_⟩
      refine (HDN.out wq hS).mono ?_
      rintro e w' ⟨rfl, hb⟩
      exact ⟨_, rfl, hS.trans (hb.mono hS.size), hb, rfl⟩
    · refine relQuiet 3 rfl rfl hEr (.string (B ([105, 112, 110, 58] ++ Dn))) (fun _ => rfl) fun u wq hS hd => ?_
      have h2 : u 2 = .string (B Dn) := hd 2 (by kernel_rfl)
      simp only [fillL, Act.put, List.setIfInBounds_toArray, List.set_cons_zero, List.set_cons_succ, h2]
      exact runCat (.const (.string ⟨#[105, 112, 110, 58]⟩)) (.tmp 11) _ rfl [105, 112, 110, 58] _ rfl rfl (by simp; omega)
    · refine relQuiet 4 rfl rfl hEr (.string (B (([105, 112, 110, 58] ++ Dn) ++ [46]))) (fun _ => rfl) fun u wq hS hd => ?_
      have h3 : u 3 = .string (B ([105, 112, 110, 58] ++ Dn)) := hd 3 (by kernel_rfl)
      simp only [fillL, Act.put, List.setIfInBounds_toArray, List.set_cons_zero, List.set_cons_succ, h3]
      exact runCat (.tmp 12) (.const (.string ⟨#[46]⟩)) _ rfl _ [46] rfl rfl (by simp; omega)
    · refine relQuiet 5 rfl rfl hEr (.pointer (some ⟨w.heap.size, 3, none⟩)) (fun _ => rfl) fun u wq hS hd => ?_
      simp only [fillL, Act.put, List.setIfInBounds_toArray, List.set_cons_zero, List.set_cons_succ]
      first | kernel_rfl | (show _ = _; kernel_rfl)
    · refine relQuiet 6 rfl rfl hEr (.int .u64 (v : Nat)) (fun _ => rfl) fun u wq hS hd => ?_
      have h5 : u 5 = .pointer (some ⟨w.heap.size, 3, none⟩) := hd 5 (by kernel_rfl)
      simp only [fillL, Act.put, List.setIfInBounds_toArray, List.set_cons_zero, List.set_cons_succ, h5]
      exact runLdU64 (.tmp 14) rfl ⟨w.heap.size, 3, none⟩ rfl _ (by rw [hS.cell (p := ⟨w.heap.size, 3, none⟩) hz0]; exact c3)
    · refine relCall 7 rfl rfl 30 fun u wq hS hd => ?_
      have h2 : u 2 = .string (B Dn) := hd 2 (by kernel_rfl)
      have h6 : u 6 = .int .u64 (v : Nat) := hd 6 (by kernel_rfl)
      simp only [fillL, Act.put, List.setIfInBounds_toArray, List.set_cons_zero, List.set_cons_succ, h2, h6]
      refine ⟨#[.int .u64 (v : Nat)], by kernel_rfl, ?_⟩
      refine (HDV.out wq hS).mono ?_
      rintro e w' ⟨rfl, hb⟩
      exact ⟨_, rfl, hS.trans (hb.mono hS.size), hb, rfl⟩
    · refine relQuiet 8 rfl rfl hEr (.string (B ((([105, 112, 110, 58] ++ Dn) ++ [46]) ++ Dv))) (fun _ => rfl) fun u wq hS hd => ?_
      have h4 : u 4 = .string (B (([105, 112, 110, 58] ++ Dn) ++ [46])) := hd 4 (by kernel_rfl)
      have h7 : u 7 = .string (B Dv) := hd 7 (by kernel_rfl)
      simp only [fillL, Act.put, List.setIfInBounds_toArray, List.set_cons_zero, List.set_cons_succ, h4, h7]
      exact runCat (.tmp 13) (.tmp 16) _ rfl _ _ rfl rfl (by simp; omega)
    intro u w2 hS hv
    have h0 : u 0 = .pointer (some ⟨w.heap.size, 2, none⟩) := hv 0 (by decide)
    have h1 : u 1 = .int .u64 (n : Nat) := hv 1 (by decide)
    have h2 : u 2 = .string (B Dn) := hv 2 (by decide)
    have h3 : u 3 = .string (B ([105, 112, 110, 58] ++ Dn)) := hv 3 (by decide)
    have h4 : u 4 = .string (B (([105, 112, 110, 58] ++ Dn) ++ [46])) := hv 4 (by decide)
    have h5 : u 5 = .pointer (some ⟨w.heap.size, 3, none⟩) := hv 5 (by decide)
    have h6 : u 6 = .int .u64 (v : Nat) := hv 6 (by decide)
    have h7 : u 7 = .string (B Dv) := hv 7 (by decide)
    have h8 : u 8 = .string (B ((([105, 112, 110, 58] ++ Dn) ++ [46]) ++ Dv)) := hv 8 (by decide)
    simp only [fillL, Act.put, List.setIfInBounds_toArray, List.set_cons_zero, List.set_cons_succ, h0, h1, h2, h3, h4, h5, h6, h7, h8]
    clear hEr hv h0 h1 h2 h3 h4 h5 h6 h7 h8
    clear u
    refine wpAny_of_held (S := fun _ => True) _ _ _ _ ?_
    refine oneH 9 rfl rfl (by kernel_rfl) fun K hK => ?_
    refine wpH_same (some 2) rfl (.string (B ((([105, 112, 110, 58] ++ Dn) ++ [46]) ++ Dv))) (by kernel_rfl) ?_
    simp only [Act.put, List.setIfInBounds_toArray, List.set_cons_zero, List.set_cons_succ]
    refine hK _ _ trivial fun _ => ?_
    clear hK K
    refine wpAnyH_done (by kernel_rfl) ?_ _
    have HE := Lib.hid (GB.out.trans (hS.mono (by omega)))
    clear hS
    go_wp2
    go_ret
    exact ⟨by rw [HT.out]; rfl, HE.out⟩
set_option maxRecDepth 100000 in
theorem Text_no (s : Int) (l : List UInt8) (n v : Nat) (w : World) (hl : l.length ≤ maxLen) (h : rightB s l n v = false) : Calls Tryd.prog 10 #[.agg #[.int .i64 s, .string (B l), .int .u64 n, .int .u64 v]] w fun e w' => e = .returned (.tuple #[.string (B []), .int .i64 1]) ∧ Below w.heap.size w w' := by
  have H := Lib.hid (fun W => Right_any s l n v W hl)
  have HR := Lib.hid h
  clear h
  go_enter Tryd.func10, Tryd.ntmps10
  go_wp2_with fail
  refine (H.out _).mono ?_
  rw [HR.out]
  rintro e w1 ⟨rfl, hb⟩
  have HB := Lib.hid (show Below w.heap.size w w1 from ((Below.refl _ _).alloc (Nat.le_refl _) _).trans (hb.mono (by show w.heap.size ≤ (w.heap.push _).size; simp)))
  clear hb
  go_wp2
  go_ret2
  exact ⟨rfl, HB.out⟩
set_option maxHeartbeats 1600000 in
set_option maxRecDepth 100000 in
theorem Text_yes (s : Int) (l : List UInt8) (n v : Nat) (w : World) (hl : l.length ≤ 1000) (hn : n < W64) (hv : v < W64) (h : rightB s l n v = true) (ht : Tab w) : Calls Tryd.prog 10 #[.agg #[.int .i64 s, .string (B l), .int .u64 n, .int .u64 v]] w fun e w' => e = .returned (.tuple #[.string (B (textB s l n v)), .int .i64 0]) ∧ Below w.heap.size w w' := by
  have H := Lib.hid (fun W => Right_any s l n v W (Nat.le_trans hl (by decide)))
  have HR := Lib.hid h
  have hDn := dec_len20 hn
  have hDv := dec_len20 hv
  have HTX1 : Hid (s = 1 → textB s l n v = [100, 116, 110, 58] ++ l) := Lib.hid fun hs => by unfold textB; rw [if_pos hs]
  have HTX2 : Hid (¬ s = 1 → textB s l n v = (([105, 112, 110, 58] ++ decDigits n) ++ [46]) ++ decDigits v) := Lib.hid fun hs => by unfold textB; rw [if_neg hs]
  have HDN0 := Lib.hid fun (W : World) (hw : Tab W) => FormatUint_any n hn W hw
  have HDV0 := Lib.hid fun (W : World) (hw : Tab W) => FormatUint_any v hv W hw
  have HTB := Lib.hid ht
  clear h hn hv ht
  generalize decDigits n = Dn at *
  generalize decDigits v = Dv at *
  generalize textB s l n v = T at *
  go_enter Tryd.func10, Tryd.ntmps10
  go_wp2_with fail
  obtain ⟨w0, hw0⟩ : ∃ w0, w.alloc (.cells #[.int .i64 s, .string (B l), .int .u64 n, .int .u64 v] 25) = w0 := ⟨_, rfl⟩
  have gb : Below w.heap.size w w0 := by rw [← hw0]; exact (Below.refl _ _).alloc (Nat.le_refl _) _
  have hz00 : w.heap.size < w0.heap.size := by rw [← hw0]; exact lt_of_last
  have q0 : w0.heap[w.heap.size]? = some (.cells #[.int .i64 s, .string (B l), .int .u64 n, .int .u64 v] 25 (0, 0)) := by rw [← hw0]; exact heap_alloc_last w _
  rw [hw0]
  clear hw0
  refine (H.out _).mono ?_
  rw [HR.out]
  rintro e w1 ⟨rfl, hb⟩
  have hz0 : w.heap.size < w1.heap.size := by have := hb.size; omega
  have q1 := heap_below hb hz00 q0
  have c0 : w1.cell? ⟨w.heap.size, 0, none⟩ = some (.int .i64 s) := by rw [cell_of_row _ _ _ _ _ _ q1]; rfl
  have c1 : w1.cell? ⟨w.heap.size, 1, none⟩ = some (.string (B l)) := by rw [cell_of_row _ _ _ _ _ _ q1]; rfl
  have c2 : w1.cell? ⟨w.heap.size, 2, none⟩ = some (.int .u64 n) := by rw [cell_of_row _ _ _ _ _ _ q1]; rfl
  have c3 : w1.cell? ⟨w.heap.size, 3, none⟩ = some (.int .u64 v) := by rw [cell_of_row _ _ _ _ _ _ q1]; rfl
  have hbw : Below w.heap.size w w1 := gb.trans (hb.mono (by omega))
  have HT1 := HTB.out.below rfl hbw
  have HDN := Lib.hid fun (W : World) (hW : Below w1.heap.size w1 W) => HDN0.out W (HT1.below rfl hW)
  have HDV := Lib.hid fun (W : World) (hW : Below w1.heap.size w1 W) => HDV0.out W (HT1.below rfl hW)
  have GB := Lib.hid hbw
  clear hb gb q0 q1 hbw HT1 HDN0 HDV0 hz00
  by_cases hs : s = 1
  · subst hs
    have HT := Lib.hid (HTX1.out rfl)
    clear HTX1 HTX2
    go_wp2
    go_ret2
    exact ⟨by rw [HT.out]; rfl, GB.out⟩
  · have HT := Lib.hid (HTX2.out hs)
    clear HTX1 HTX2
    go_wp2_with fail
    have hEr : ∀ W : World, (fun W W' => Below W.heap.size W W') W W := fun W => Below.refl _ _
    refine wp_region_rel 9 2 0 (fun W => Below w1.heap.size w1 W) [15, 16, 17, 18, 19, 20, 21, 22, 23] (relAt [fun zv _ => zv = .pointer (some ⟨w.heap.size, 2, none⟩), fun zv _ => zv = .int .u64 (n : Nat), fun zv _ => zv = .string (B Dn), fun zv _ => zv = .string (B ([105, 112, 110, 58] ++ Dn)), fun zv _ => zv = .string (B (([105, 112, 110, 58] ++ Dn) ++ [46])), fun zv _ => zv = .pointer (some ⟨w.heap.size, 3, none⟩), fun zv _ => zv = .int .u64 (v : Nat), fun zv _ => zv = .string (B Dv), fun zv _ => zv = .string (B ((([105, 112, 110, 58] ++ Dn) ++ [46]) ++ Dv))]) (fun W W' => Below W.heap.size W W') (by kernel_rfl) rfl rfl (by kernel_rfl) (by kernel_rfl) (by kernel_rfl) (by kernel_rfl) (Mono.at ⟨fun _ _ _ _ h => h, fun _ _ _ _ h => h, fun _ _ _ _ h => h, fun _ _ _ _ h => h, fun _ _ _ _ h => h, fun _ _ _ _ h => h, fun _ _ _ _ h => h, fun _ _ _ _ h => h, fun _ _ _ _ h => h, trivial⟩) ((Below.refl _ _).drew) ⟨?_, ?_, ?_, ?_, ?_, ?_, ?_, ?_, ?_, trivial⟩ ?_
    · refine relQuiet 0 rfl rfl hEr (.pointer (some ⟨w.heap.size, 2, none⟩)) (fun _ => rfl) fun u wq hS hd => ?_
      simp only [fillL, Act.put, List.setIfInBounds_toArray, List.set_cons_zero, List.set_cons_succ]
      first | kernel_rfl | (show _ = _; kernel_rfl)
    · refine relQuiet 1 rfl rfl hEr (.int .u64 (n : Nat)) (fun _ => rfl) fun u wq hS hd => ?_
      have h0 : u 0 = .pointer (some ⟨w.heap.size, 2, none⟩) := hd 0 (by kernel_rfl)
      simp only [fillL, Act.put, List.setIfInBounds_toArray, List.set_cons_zero, List.set_cons_succ, h0]
      exact runLdU64 (.tmp 15) rfl ⟨w.heap.size, 2, none⟩ rfl _ (by rw [hS.cell (p := ⟨w.heap.size, 2, none⟩) hz0]; exact c2)
    · refine relCall 2 rfl rfl 23 fun u wq hS hd => ?_
      have h1 : u 1 = .int .u64 (n : Nat) := hd 1 (by kernel_rfl)
      simp only [fillL, Act.put, List.setIfInBounds_toArray, List.set_cons_zero, List.set_cons_succ, h1]
      refine ⟨#[.int .u64 (n : Nat), .int .i64 10], by kernel_rfl, ?_⟩
      refine (HDN.out wq hS).mono ?_
      rintro e w' ⟨rfl, hb⟩
      exact ⟨_, rfl, hS.trans (hb.mono hS.size), hb, rfl⟩
    · refine relQuiet 3 rfl rfl hEr (.string (B ([105, 112, 110, 58] ++ Dn))) (fun _ => rfl) fun u wq hS hd => ?_
      have h2 : u 2 = .string (B Dn) := hd 2 (by kernel_rfl)
      simp only [fillL, Act.put, List.setIfInBounds_toArray, List.set_cons_zero, List.set_cons_succ, h2]
      exact runCat (.const (.string ⟨#[105, 112, 110, 58]⟩)) (.tmp 17) _ rfl [105, 112, 110, 58] _ rfl rfl (by simp; omega)
    · refine relQuiet 4 rfl rfl hEr (.string (B (([105, 112, 110, 58] ++ Dn) ++ [46]))) (fun _ => rfl) fun u wq hS hd => ?_
      have h3 : u 3 = .string (B ([105, 112, 110, 58] ++ Dn)) := hd 3 (by kernel_rfl)
      simp only [fillL, Act.put, List.setIfInBounds_toArray, List.set_cons_zero, List.set_cons_succ, h3]
      exact runCat (.tmp 18) (.const (.string ⟨#[46]⟩)) _ rfl _ [46] rfl rfl (by simp; omega)
    · refine relQuiet 5 rfl rfl hEr (.pointer (some ⟨w.heap.size, 3, none⟩)) (fun _ => rfl) fun u wq hS hd => ?_
      simp only [fillL, Act.put, List.setIfInBounds_toArray, List.set_cons_zero, List.set_cons_succ]
      first | kernel_rfl | (show _ = _; kernel_rfl)
    · refine relQuiet 6 rfl rfl hEr (.int .u64 (v : Nat)) (fun _ => rfl) fun u wq hS hd => ?_
      have h5 : u 5 = .pointer (some ⟨w.heap.size, 3, none⟩) := hd 5 (by kernel_rfl)
      simp only [fillL, Act.put, List.setIfInBounds_toArray, List.set_cons_zero, List.set_cons_succ, h5]
      exact runLdU64 (.tmp 20) rfl ⟨w.heap.size, 3, none⟩ rfl _ (by rw [hS.cell (p := ⟨w.heap.size, 3, none⟩) hz0]; exact c3)
    · refine relCall 7 rfl rfl 23 fun u wq hS hd => ?_
      have h2 : u 2 = .string (B Dn) := hd 2 (by kernel_rfl)
      have h6 : u 6 = .int .u64 (v : Nat) := hd 6 (by kernel_rfl)
      simp only [fillL, Act.put, List.setIfInBounds_toArray, List.set_cons_zero, List.set_cons_succ, h2, h6]
      refine ⟨#[.int .u64 (v : Nat), .int .i64 10], by kernel_rfl, ?_⟩
      refine (HDV.out wq hS).mono ?_
      rintro e w' ⟨rfl, hb⟩
      exact ⟨_, rfl, hS.trans (hb.mono hS.size), hb, rfl⟩
    · refine relQuiet 8 rfl rfl hEr (.string (B ((([105, 112, 110, 58] ++ Dn) ++ [46]) ++ Dv))) (fun _ => rfl) fun u wq hS hd => ?_
      have h4 : u 4 = .string (B (([105, 112, 110, 58] ++ Dn) ++ [46])) := hd 4 (by kernel_rfl)
      have h7 : u 7 = .string (B Dv) := hd 7 (by kernel_rfl)
      simp only [fillL, Act.put, List.setIfInBounds_toArray, List.set_cons_zero, List.set_cons_succ, h4, h7]
      exact runCat (.tmp 19) (.tmp 22) _ rfl _ _ rfl rfl (by simp; omega)
    intro u w2 hS hv
    have h0 : u 0 = .pointer (some ⟨w.heap.size, 2, none⟩) := hv 0 (by decide)
    have h1 : u 1 = .int .u64 (n : Nat) := hv 1 (by decide)
    have h2 : u 2 = .string (B Dn) := hv 2 (by decide)
    have h3 : u 3 = .string (B ([105, 112, 110, 58] ++ Dn)) := hv 3 (by decide)
    have h4 : u 4 = .string (B (([105, 112, 110, 58] ++ Dn) ++ [46])) := hv 4 (by decide)
    have h5 : u 5 = .pointer (some ⟨w.heap.size, 3, none⟩) := hv 5 (by decide)
    have h6 : u 6 = .int .u64 (v : Nat) := hv 6 (by decide)
    have h7 : u 7 = .string (B Dv) := hv 7 (by decide)
    have h8 : u 8 = .string (B ((([105, 112, 110, 58] ++ Dn) ++ [46]) ++ Dv)) := hv 8 (by decide)
    simp only [fillL, Act.put, List.setIfInBounds_toArray, List.set_cons_zero, List.set_cons_succ, h0, h1, h2, h3, h4, h5, h6, h7, h8]
    clear hEr hv h0 h1 h2 h3 h4 h5 h6 h7 h8
    clear u
    refine wpAny_of_held (S := fun _ => True) _ _ _ _ ?_
    refine oneH 9 rfl rfl (by kernel_rfl) fun K hK => ?_
    refine wpH_same (some 2) rfl (.string (B ((([105, 112, 110, 58] ++ Dn) ++ [46]) ++ Dv))) (by kernel_rfl) ?_
    simp only [Act.put, List.setIfInBounds_toArray, List.set_cons_zero, List.set_cons_succ]
    refine hK _ _ trivial fun _ => ?_
    clear hK K
    refine oneH 10 rfl rfl (by kernel_rfl) fun K hK => ?_
    refine wpH_same (some 3) rfl (.int .i64 0) (by kernel_rfl) ?_
    simp only [Act.put, List.setIfInBounds_toArray, List.set_cons_zero, List.set_cons_succ]
    refine hK _ _ trivial fun _ => ?_
    clear hK K
    refine wpAnyH_done (by kernel_rfl) ?_ _
    have HE := Lib.hid (GB.out.trans (hS.mono (by omega)))
    clear hS
    go_wp2
    go_ret2
    exact ⟨by rw [HT.out]; rfl, HE.out⟩
end Go.Proofs.YtlbpodddokhmaaaDoor.Fmt
