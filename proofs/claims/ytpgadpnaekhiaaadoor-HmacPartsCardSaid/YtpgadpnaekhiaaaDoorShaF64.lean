/-
  SHA-2's words of 64 bits: the walk of sum.
  Conditions: the package's numbers lie in memory; a size of these words.
-/
import Derived.Test.YtpgadpnaekhiaaaDoorShaE64
import Derived.Test.YtpgadpnaekhiaaaDoorShelf
namespace Go.Proofs.YtpgadpnaekhiaaaDoor.Sha64
open Go.ChangeShapes Go.WideShapes Go.ChangeAt Go.RowKit Go.Deep Go.Proofs.YtpgadpnaekhiaaaDoor.Bw
open Go.Proofs.YtpgadpnaekhiaaaDoor.Sha (roundsL firstsL GlobAt zeros zeros_length made_zeros numB numB_length number_any)
def Z (n : Nat) : List UInt8 := List.replicate n 0
theorem Z_length (n : Nat) : (Z n).length = n := List.length_replicate
theorem repeat_Z (c : Nat) : Lib.repeatL [0] c = Z c := by
  unfold Z
  induction c with
  | zero => rfl
  | succ n ih => simp [Lib.repeatL, ih, List.replicate_succ]
theorem Repeat_any (c : Nat) (w : World) (hc : c ≤ 1000) : Calls Tryd.prog 31 #[.string ⟨#[0]⟩, .int .i64 c] w fun e w' => e = .returned (.string (B (Z c))) ∧ Below w.heap.size w w' := by
  have h := Tryd.strings_Repeat ⟨#[0]⟩ c w (by omega) (by show 1 * c ≤ _; omega)
  rw [show (⟨#[0]⟩ : ByteArray).data.toList = [0] from rfl, repeat_Z] at h
  exact h
set_option maxRecDepth 100000 in
theorem formOf_any (size : Nat) (w : World) (hs : ((size : Int) == 256) = false) : Calls Tryd.prog 42 #[.int .i64 size] w fun e w' => e = .returned (.agg #[.int .i64 64, .int .i64 80, .int .i64 28, .int .i64 34, .int .i64 39, .int .i64 14, .int .i64 18, .int .i64 41, .int .i64 1, .int .i64 8, .int .i64 7, .int .i64 19, .int .i64 61, .int .i64 6]) ∧ Below w.heap.size w w' := by
  go_enter Tryd.func42, Tryd.ntmps42
  go_wp2_with (with_reducible refine stop_store (t := 75) rfl ?_)
  refine Lib.hid ?_
  refine wpList_store_rowTo rfl 75 _ _ rfl rfl w.heap.size #[.int .i64 64, .int .i64 80, .int .i64 28, .int .i64 34, .int .i64 39, .int .i64 14, .int .i64 18, .int .i64 41, .int .i64 1, .int .i64 8, .int .i64 7, .int .i64 19, .int .i64 61, .int .i64 6] rfl rfl 75 _ (heap_alloc_last w _) (by kernel_rfl) rfl (by kernel_rfl) ?_
  rw [World.setRow_alloc_new]
  go_wp2
  exact post_row w.heap.size Tryd.results42 75 _ _ rfl (heap_alloc_last w _) Tryd.underlying75 rfl (by kernel_rfl) rfl ⟨rfl, by ((repeat' (with_reducible first | exact Below.refl _ _ | assumption | refine Below.drew ?_ | refine below_drewN ?_ _ | refine Below.setCell ?_ ?_ _ | refine Below.alloc ?_ ?_ _ | refine Below.ext ?_ ?_ _ | refine Below.trans ?_ (Below.mono ‹_› ?_))) <;> first | omega | (simp; done) | (simp; omega))⟩
/-- The sizes of these words. -/
def SizeOk (size : Nat) : Prop := ((size : Int) == 256) = false ∧ (size = 256 ∨ size = 384 ∨ size = 512)
theorem SizeOk.le {size : Nat} (h : SizeOk size) : size / 8 ≤ 8 * 8 := by
  obtain ⟨h1, h2⟩ := h
  rcases h2 with rfl | rfl | rfl
  all_goals first
    | omega
    | (exfalso; revert h1; decide)
theorem Block_any (size : Nat) (w : World) (hs : SizeOk size) : Calls Tryd.prog 20 #[.int .i64 size] w fun e w' => e = .returned (.int .i64 128) ∧ w = w' := by
  obtain ⟨h1, h2⟩ := hs
  rcases h2 with rfl | rfl | rfl
  all_goals first
    | (exfalso; revert h1; decide)
    | (go_enter Tryd.func20, Tryd.ntmps20
       go_wp2
       go_ret
       exact ⟨rfl, rfl⟩)
theorem Size_any (size : Nat) (w : World) (hs : SizeOk size) : Calls Tryd.prog 21 #[.int .i64 size] w fun e w' => e = .returned (.int .i64 ((size / 8 : Nat) : Int)) ∧ w = w' := by
  have HB := Lib.hid fun W => Block_any size W hs
  obtain ⟨h1, h2⟩ := hs
  rcases h2 with rfl | rfl | rfl
  all_goals first
    | (exfalso; revert h1; decide)
    | (go_enter Tryd.func21, Tryd.ntmps21
       go_wp2_with fail
       refine Calls.mono (HB.out _) ?_
       rintro _ _ ⟨rfl, rfl⟩
       go_wp2
       go_ret
       exact ⟨rfl, rfl⟩)
/-- A text, filled up. -/
def padN (n : Nat) : Nat := (240 - (n + 1) % 128) % 128
def padB (b : List UInt8) : List UInt8 := (b ++ [128]) ++ (Z (padN b.length) ++ numB (8 * b.length) 16)
theorem padB_length (b : List UInt8) : (padB b).length = b.length + 1 + padN b.length + 16 := by
  simp only [padB, List.length_append, Z_length, numB_length, List.length_cons, List.length_nil]; omega
theorem padB_mod (b : List UInt8) : (padB b).length % 128 = 0 := by
  rw [padB_length]; unfold padN; omega
def blkB (l : List UInt8) (k : Nat) : List UInt8 := (l.drop (128 * k)).take 128
def sumN (fr : Nat) (l : List UInt8) : Nat → List Nat
  | 0 => beginL fr
  | k + 1 => stepW (sumN fr l k) tableL (blkB l k)
def wordsB (h : List Nat) : Nat → List UInt8
  | 0 => []
  | i + 1 => wordsB h i ++ numB (h.getD i 0) 8
def sumB (size fr : Nat) (b : List UInt8) : List UInt8 := (wordsB (sumN fr (padB b) ((padB b).length / 128)) 8).take (size / 8)
theorem stepW_words (h k : List Nat) (b : List UInt8) : Words (stepW h k b) := fun j => by
  unfold stepW
  by_cases hj : j < 8
  · rw [tab_get _ _ _ hj]; exact Nat.mod_lt _ (by omega)
  · rw [List.getD, List.getElem?_eq_none (by rw [tab_length]; omega)]; simp
theorem beginL_words (fr : Nat) : Words (beginL fr) := fun j => by
  unfold beginL
  by_cases hj : j < 8
  · rw [tab_get _ _ _ hj]; exact cutF_lt (firsts_lt _)
  · rw [List.getD, List.getElem?_eq_none (by rw [tab_length]; omega)]; simp
theorem sumN_words (fr : Nat) (l : List UInt8) : ∀ k, Words (sumN fr l k)
  | 0 => beginL_words fr
  | _ + 1 => stepW_words _ _ _
theorem sumN_length (fr : Nat) (l : List UInt8) : ∀ k, (sumN fr l k).length = 8
  | 0 => tab_length _ _
  | _ + 1 => tab_length _ _
theorem wordsB_length (h : List Nat) : ∀ i, (wordsB h i).length = i * 8
  | 0 => by simp [wordsB]
  | i + 1 => by rw [wordsB, List.length_append, wordsB_length h i, numB_length]; omega
theorem sumB_length (size fr : Nat) (b : List UInt8) (h : size / 8 ≤ 8 * 8) : (sumB size fr b).length = size / 8 := by
  rw [sumB, List.length_take, wordsB_length]; omega
theorem wpH_callE {P : Program} {Q : Exit → Act → World → Prop} {α : Type} {o : Oper} {a : Act} {w : World} {K : Act → World → Prop} (dst : Option Tmp) (hdst : o.dst = dst) (f : FuncId) (args : Array Value) (hrun : (execOp a.eval o).run P w = .ok (.enter f args) w) (v : α → Value) (R : α → World → Prop)
    (hc : Calls P f args w fun e w' => ∃ x, e = .returned (v x) ∧ R x w') (h : ∀ x w', R x w' → K (a.put dst (v x)) w') : o.wp P a w K Q := by
  subst hdst
  unfold Oper.wp
  rw [hrun]
  refine hc.mono ?_
  rintro _ w' ⟨x, rfl, hr⟩
  exact h x w' hr
theorem ne_form {W : World} {b fb : Nat} {l : List Nat} (h : NumsAt W b 50 .u64 l) (hf : W.heap[fb]? = some (.cells #[.int .i64 64, .int .i64 80, .int .i64 28, .int .i64 34, .int .i64 39, .int .i64 14, .int .i64 18, .int .i64 41, .int .i64 1, .int .i64 8, .int .i64 7, .int .i64 19, .int .i64 61, .int .i64 6] 75 (0, 0))) : ¬ b = fb := fun e => by
  subst e
  unfold NumsAt at h
  rw [h] at hf
  simp only [Option.some.injEq, Obj.cells.injEq] at hf
  exact absurd hf.2.1 (by decide)
/-- What sum's regions keep. -/
def SumS (w : World) (fb : Nat) (W : World) : Prop := Below w.heap.size w W ∧ W.heap[fb]? = some (.cells #[.int .i64 64, .int .i64 80, .int .i64 28, .int .i64 34, .int .i64 39, .int .i64 14, .int .i64 18, .int .i64 41, .int .i64 1, .int .i64 8, .int .i64 7, .int .i64 19, .int .i64 61, .int .i64 6] 75 (0, 0))
theorem SumS.keep {w : World} {fb : Nat} (W W1 : World) (h : SumS w fb W) (hb : Below W.heap.size W W1) : SumS w fb W1 :=
  ⟨h.1.trans (hb.mono h.1.size), below_heap hb (lt_of_heap h.2) h.2⟩
set_option maxHeartbeats 3200000 in
set_option maxRecDepth 100000 in
theorem sum_any (size fr : Nat) (b : List UInt8) (w : World) (hg : GlobAt w) (hs : SizeOk size) (hfr : (((size : Int) == 384) = true ∧ fr = 1) ∨ (((size : Int) == 384) = false ∧ fr = 0)) (hbl : b.length ≤ 1000000) :
    Calls Tryd.prog 30 #[.int .i64 size, .string (B b)] w fun e w' => e = .returned (.string (B (sumB size fr b))) ∧ Below w.heap.size w w' := by
  have HFO := Lib.hid fun W => formOf_any size W hs.1
  have HBK := Lib.hid fun W => Block_any size W hs
  have HSZ := Lib.hid fun W => Size_any size W hs
  obtain ⟨m, hm⟩ : ∃ m, m = size / 8 := ⟨_, rfl⟩
  have hm8 : m ≤ 8 * 8 := by rw [hm]; exact hs.le
  rw [← hm] at HSZ
  have HM := Lib.hid hm
  clear hm
  have HGW := Lib.hid hg
  have HFR := Lib.hid hfr
  have HREP := Lib.hid (show ∀ W, Calls Tryd.prog 31 #[.string ⟨#[0]⟩, .int .i64 (padN b.length : Nat)] W fun e w' => e = .returned (.string (B (Z (padN b.length)))) ∧ Below W.heap.size W w' from fun W => Repeat_any _ W (by unfold padN; omega))
  have HNUM := Lib.hid (show ∀ W, Calls Tryd.prog 43 #[.int .u64 ((8 * b.length : Nat) : Int), .int .i64 16] W fun e w' => e = .returned (.string (B (numB (8 * b.length) 16))) ∧ Below W.heap.size W w' from fun W => number_any _ 16 W (by omega))
  have hpn : (240 - ((b.length : Int) + 1) % 128) % 128 = ((padN b.length : Nat) : Int) := by unfold padN; omega
  have hpl : padN b.length < 128 := Nat.mod_lt _ (by omega)
  clear hs hfr hg
  go_enter Tryd.func30, Tryd.ntmps30
  go_wp2_with fail
  refine Calls.ext (HFO.out _) fun u1 => ?_
  go_wp2_with fail
  refine Calls.mono (HBK.out _) ?_
  rintro _ _ ⟨rfl, rfl⟩
  go_wp2_with (with_reducible refine stop_store (t := 75) rfl ?_)
  refine Lib.hid ?_
  have hV : w.heap.size + more u1 = (ext w u1).heap.size := by simp
  have HBV : Below w.heap.size w (ext w u1) := ext_below w u1
  generalize ext w u1 = V at *
  generalize w.heap.size + more u1 = fb at *
  subst hV
  refine wpList_store_rowTo rfl 75 _ _ rfl rfl V.heap.size #[.int .i64 64, .int .i64 80, .int .i64 28, .int .i64 34, .int .i64 39, .int .i64 14, .int .i64 18, .int .i64 41, .int .i64 1, .int .i64 8, .int .i64 7, .int .i64 19, .int .i64 61, .int .i64 6] rfl rfl 75 _ (heap_alloc_last V _) (by kernel_rfl) rfl (by kernel_rfl) ?_
  rw [World.setRow_alloc_new]
  have hform : (V.alloc (.cells #[.int .i64 64, .int .i64 80, .int .i64 28, .int .i64 34, .int .i64 39, .int .i64 14, .int .i64 18, .int .i64 41, .int .i64 1, .int .i64 8, .int .i64 7, .int .i64 19, .int .i64 61, .int .i64 6] 75)).heap[V.heap.size]? = some (.cells #[.int .i64 64, .int .i64 80, .int .i64 28, .int .i64 34, .int .i64 39, .int .i64 14, .int .i64 18, .int .i64 41, .int .i64 1, .int .i64 8, .int .i64 7, .int .i64 19, .int .i64 61, .int .i64 6] 75 (0, 0)) := heap_alloc_last V _
  have hbel : Below w.heap.size w (V.alloc (.cells #[.int .i64 64, .int .i64 80, .int .i64 28, .int .i64 34, .int .i64 39, .int .i64 14, .int .i64 18, .int .i64 41, .int .i64 1, .int .i64 8, .int .i64 7, .int .i64 19, .int .i64 61, .int .i64 6] 75)) := HBV.alloc HBV.size _
  have hfbw : w.heap.size ≤ V.heap.size := HBV.size
  generalize V.alloc (.cells #[.int .i64 64, .int .i64 80, .int .i64 28, .int .i64 34, .int .i64 39, .int .i64 14, .int .i64 18, .int .i64 41, .int .i64 1, .int .i64 8, .int .i64 7, .int .i64 19, .int .i64 61, .int .i64 6] 75) = W1 at *
  generalize V.heap.size = fb at *
  clear HBV V HFO
  have hcat1 : ¬ 9223372036854775807 < b.length + 1 := by omega
  have hcat2 : ¬ 9223372036854775807 < padN b.length + 16 := by omega
  have hcat3 : ¬ 9223372036854775807 < b.length + 1 + (padN b.length + 16) := by omega
  have HZL := Lib.hid (Z_length (padN b.length))
  have HNL := Lib.hid (numB_length (8 * b.length) 16)
  have HPB := Lib.hid (show padB b = b ++ 128 :: (Z (padN b.length) ++ numB (8 * b.length) 16) by simp [padB])
  have HPL := Lib.hid (padB_length b)
  have HPM := Lib.hid (padB_mod b)
  obtain ⟨n8, h8⟩ : ∃ n8, n8 = 8 * b.length := ⟨_, rfl⟩
  have hnum : (8 : Int) * (b.length : Int) = (n8 : Int) := by omega
  have hwn : IntKind.u64.wrap (n8 : Int) = (n8 : Int) := wrap64u _ (by omega)
  have hwn2 : IntKind.u64.wrap (b.length : Int) = (b.length : Int) := wrap64u _ (by omega)
  rw [← h8] at HNUM HNL HPB
  have H8 := Lib.hid h8
  clear h8
  go_wp2_with fail
  refine Calls.below (HREP.out _) fun W2 hW2 => ?_
  go_wp2_with fail
  refine Calls.below (HNUM.out _) fun W3 hW3 => ?_
  replace hform := below_heap (hW2.trans (hW3.mono hW2.size)) (lt_of_heap hform) hform
  replace hbel := (hbel.trans (hW2.mono hbel.size)).trans (hW3.mono (hbel.trans (hW2.mono hbel.size)).size)
  have hzl := HZL.out
  have hnl := HNL.out
  go_upto_region 5 with fail
  rw [← HPB.out]
  have hGl := HGW.out.below hbel
  have HBEG := Lib.hid (show ∀ W, GlobAt W → Calls Tryd.prog 47 #[.int .i64 size, .agg #[.int .i64 64, .int .i64 80, .int .i64 28, .int .i64 34, .int .i64 39, .int .i64 14, .int .i64 18, .int .i64 41, .int .i64 1, .int .i64 8, .int .i64 7, .int .i64 19, .int .i64 61, .int .i64 6]] W fun e w' => e = .returned (.agg (nums .u64 (beginL fr))) ∧ Below W.heap.size W w' from fun W h => begin_any size fr W h HFR.out)
  have HTAB := Lib.hid (show ∀ W, GlobAt W → Calls Tryd.prog 48 #[.agg #[.int .i64 64, .int .i64 80, .int .i64 28, .int .i64 34, .int .i64 39, .int .i64 14, .int .i64 18, .int .i64 41, .int .i64 1, .int .i64 8, .int .i64 7, .int .i64 19, .int .i64 61, .int .i64 6]] W fun e w' => ∃ tb : Nat, e = .returned (.slice (some ⟨tb, 0, none⟩) 80 80) ∧ NumsAt w' tb 45 .u64 tableL ∧ W.heap.size ≤ tb ∧ Below W.heap.size W w' from fun W h => table_any W h)
  have hbgl := sumN_length fr (padB b) 0
  have HPL2 := Lib.hid (show (padB b).length ≤ 1000400 by rw [padB_length]; omega)
  have HSB := Lib.hid (show sumB size fr b = (wordsB (sumN fr (padB b) ((padB b).length / 128)) 8).take m by rw [HM.out]; rfl)
  clear hzl hnl hpn hpl hcat1 hcat2 hcat3 hnum hwn hwn2
  generalize padB b = all at *
  generalize hres : sumB size fr b = res at *
  have HRES := Lib.hid hres
  clear hres
  have hBG : (beginL fr).length = 8 := tab_length _ _
  go_cut [9, 10] from 14 to 47 (fun s9 s10 W => ∃ hb tb : Nat, s9 = .pointer (some ⟨hb, 0, none⟩) ∧ s10 = .slice (some ⟨tb, 0, none⟩) 80 80 ∧ NumsAt W hb 50 .u64 (beginL fr) ∧ NumsAt W tb 45 .u64 tableL ∧ tb ≠ hb ∧ w.heap.size ≤ hb ∧ w.heap.size ≤ tb ∧ SumS w fb W)
  case first =>
    have hS : SumS w fb W3.drew := ⟨hbel.drew, hform⟩
    refine wp_region_held (S := fun W => SumS w fb W) (by kernel_rfl) ?_
    change wpAnyH _ _ _ _ _ _ _ _ W3.drew
    refine takeH 0 rfl rfl (some 43) rfl (.int .i64 size) (by kernel_rfl) (by kernel_rfl) (by kernel_rfl) (fun _ _ _ h => h) (fun _ _ => rfl) hS ?_
    simp only [Act.put, List.setIfInBounds_toArray, List.set_cons_zero, List.set_cons_succ]
    refine takeH 1 rfl rfl (some 44) rfl (.agg #[.int .i64 64, .int .i64 80, .int .i64 28, .int .i64 34, .int .i64 39, .int .i64 14, .int .i64 18, .int .i64 41, .int .i64 1, .int .i64 8, .int .i64 7, .int .i64 19, .int .i64 61, .int .i64 6]) (by kernel_rfl) (by kernel_rfl) (by kernel_rfl) (fun _ _ _ h => h) (fun w1 h1 => runForm _ rfl rfl h1.2) hS ?_
    simp only [Act.put, List.setIfInBounds_toArray, List.set_cons_zero, List.set_cons_succ]
    refine takeH 3 rfl rfl (some 46) rfl (.agg #[.int .i64 64, .int .i64 80, .int .i64 28, .int .i64 34, .int .i64 39, .int .i64 14, .int .i64 18, .int .i64 41, .int .i64 1, .int .i64 8, .int .i64 7, .int .i64 19, .int .i64 61, .int .i64 6]) (by kernel_rfl) (by kernel_rfl) (by kernel_rfl) (fun _ _ _ h => h) (fun w1 h1 => runForm _ rfl rfl h1.2) hS ?_
    simp only [Act.put, List.setIfInBounds_toArray, List.set_cons_zero, List.set_cons_succ]
    refine twoH 2 5 rfl rfl rfl rfl (by kernel_rfl) (fun K hK => ?_) (fun K hK => ?_)
    · refine wpH_call (some 45) rfl 47 #[.int .i64 size, .agg #[.int .i64 64, .int .i64 80, .int .i64 28, .int .i64 34, .int .i64 39, .int .i64 14, .int .i64 18, .int .i64 41, .int .i64 1, .int .i64 8, .int .i64 7, .int .i64 19, .int .i64 61, .int .i64 6]] (by kernel_rfl) _ _ (HBEG.out _ hGl) fun Wb hWb => ?_
      simp only [Act.put, List.setIfInBounds_toArray, List.set_cons_zero, List.set_cons_succ]
      have hSb := SumS.keep _ Wb hS hWb
      refine hK _ _ hSb fun _ => ?_
      clear hK K
      refine twoH 4 5 rfl rfl rfl rfl (by kernel_rfl) (fun K hK => ?_) (fun K hK => ?_)
      · refine wpH_callE (some 47) rfl 48 #[.agg #[.int .i64 64, .int .i64 80, .int .i64 28, .int .i64 34, .int .i64 39, .int .i64 14, .int .i64 18, .int .i64 41, .int .i64 1, .int .i64 8, .int .i64 7, .int .i64 19, .int .i64 61, .int .i64 6]] (by kernel_rfl) (fun tb : Nat => Value.slice (some ⟨tb, 0, none⟩) 80 80) _ (HTAB.out _ (HGW.out.below hSb.1)) fun tb Wt hWt => ?_
        simp only [Act.put, List.setIfInBounds_toArray, List.set_cons_zero, List.set_cons_succ]
        obtain ⟨htab, htb1, hWt⟩ := hWt
        have hSt := SumS.keep _ Wt hSb hWt
        refine hK _ _ hSt fun _ => ?_
        clear hK K
        refine oneH 5 rfl rfl (by kernel_rfl) fun K hK => ?_
        have hSa : SumS w fb (Wt.alloc (.cells (nums .u64 (zeros 8)) 50)) := ⟨hSt.1.alloc hSt.1.size _, heap_under hSt.2⟩
        refine wpH_run (w' := Wt.alloc (.cells (nums .u64 (zeros 8)) 50)) (some 9) rfl (.pointer (some ⟨Wt.heap.size, 0, none⟩)) (by kernel_rfl) ?_
        simp only [Act.put, List.setIfInBounds_toArray, List.set_cons_zero, List.set_cons_succ]
        refine hK _ _ hSa fun _ => ?_
        clear hK K
        have hrow9 : NumsAt (Wt.alloc (.cells (nums .u64 (zeros 8)) 50)) Wt.heap.size 50 .u64 (zeros 8) := NumsAt.new Wt _ _ _
        have htab9 : NumsAt (Wt.alloc (.cells (nums .u64 (zeros 8)) 50)) tb 45 .u64 tableL := htab.alloc _
        have hS9 : SumS w fb ((Wt.alloc (.cells (nums .u64 (zeros 8)) 50)).setRow Wt.heap.size (nums .u64 (beginL fr))) := ⟨Below.setRow hSa.1 _ hSt.1.size _, by rw [setRow_other _ _ _ _ (by have := hSa.2; intro e; rw [← e] at this; unfold NumsAt at hrow9; rw [hrow9] at this; exact absurd (congrArg (fun o => match o with | some (Obj.cells _ t _) => t | _ => 0) this) (by decide))]; exact hSa.2⟩
        refine oneH 6 rfl rfl (by kernel_rfl) fun K hK => ?_
        refine wpH_store rfl 50 _ _ rfl Wt.heap.size (nums .u64 (beginL fr)) (nums .u64 (zeros 8)) 50 rfl rfl hrow9 (by rw [nums_size, hBG]; kernel_rfl) (by rw [nums_size, nums_size, hBG, zeros_length]) (nums_oneCell _ _) ?_
        refine hK _ _ hS9 fun _ => ?_
        clear hK K
        refine oneH 7 rfl rfl (by kernel_rfl) fun K hK => ?_
        refine wpH_run (some 10) rfl (.slice (some ⟨tb, 0, none⟩) 80 80) rfl ?_
        simp only [Act.put, List.setIfInBounds_toArray, List.set_cons_zero, List.set_cons_succ]
        refine hK _ _ hS9 fun _ => ?_
        clear hK K
        refine wpAnyH_done (by kernel_rfl) ?_ _
        go_wp2
        go_meet
        exact ⟨_, tb, rfl, rfl, hrow9.setRow _, htab9.setRow_other _ _ (by have := htab.lt; omega), (by have := htab.lt; omega), hSt.1.size, (Nat.le_trans hSb.1.size htb1), hS9⟩
      · have hSa : SumS w fb (Wb.alloc (.cells (nums .u64 (zeros 8)) 50)) := ⟨hSb.1.alloc hSb.1.size _, heap_under hSb.2⟩
        refine wpH_run (w' := Wb.alloc (.cells (nums .u64 (zeros 8)) 50)) (some 9) rfl (.pointer (some ⟨Wb.heap.size, 0, none⟩)) (by kernel_rfl) ?_
        simp only [Act.put, List.setIfInBounds_toArray, List.set_cons_zero, List.set_cons_succ]
        refine hK _ _ hSa fun _ => ?_
        clear hK K
        refine oneH 4 rfl rfl (by kernel_rfl) fun K hK => ?_
        refine wpH_callE (some 47) rfl 48 #[.agg #[.int .i64 64, .int .i64 80, .int .i64 28, .int .i64 34, .int .i64 39, .int .i64 14, .int .i64 18, .int .i64 41, .int .i64 1, .int .i64 8, .int .i64 7, .int .i64 19, .int .i64 61, .int .i64 6]] (by kernel_rfl) (fun tb : Nat => Value.slice (some ⟨tb, 0, none⟩) 80 80) _ (HTAB.out _ (HGW.out.below hSa.1)) fun tb Wt hWt => ?_
        simp only [Act.put, List.setIfInBounds_toArray, List.set_cons_zero, List.set_cons_succ]
        obtain ⟨htab, htb1, hWt⟩ := hWt
        have hSt := SumS.keep _ Wt hSa hWt
        refine hK _ _ hSt fun _ => ?_
        clear hK K
        have hrow9 : NumsAt Wt Wb.heap.size 50 .u64 (zeros 8) := (NumsAt.new Wb _ _ _).below hWt
        have htab9 : NumsAt Wt tb 45 .u64 tableL := htab
        have hS9 : SumS w fb (Wt.setRow Wb.heap.size (nums .u64 (beginL fr))) := ⟨Below.setRow hSt.1 _ hSb.1.size _, by rw [setRow_other _ _ _ _ (by have := hSt.2; intro e; rw [← e] at this; unfold NumsAt at hrow9; rw [hrow9] at this; exact absurd (congrArg (fun o => match o with | some (Obj.cells _ t _) => t | _ => 0) this) (by decide))]; exact hSt.2⟩
        refine oneH 6 rfl rfl (by kernel_rfl) fun K hK => ?_
        refine wpH_store rfl 50 _ _ rfl Wb.heap.size (nums .u64 (beginL fr)) (nums .u64 (zeros 8)) 50 rfl rfl hrow9 (by rw [nums_size, hBG]; kernel_rfl) (by rw [nums_size, nums_size, hBG, zeros_length]) (nums_oneCell _ _) ?_
        refine hK _ _ hS9 fun _ => ?_
        clear hK K
        refine oneH 7 rfl rfl (by kernel_rfl) fun K hK => ?_
        refine wpH_run (some 10) rfl (.slice (some ⟨tb, 0, none⟩) 80 80) rfl ?_
        simp only [Act.put, List.setIfInBounds_toArray, List.set_cons_zero, List.set_cons_succ]
        refine hK _ _ hS9 fun _ => ?_
        clear hK K
        refine wpAnyH_done (by kernel_rfl) ?_ _
        go_wp2
        go_meet
        exact ⟨_, tb, rfl, rfl, hrow9.setRow _, htab9.setRow_other _ _ (by have : Wb.heap.size < (Wb.alloc (.cells (nums .u64 (zeros 8)) 50)).heap.size := (NumsAt.new Wb _ _ _).lt; omega), (by have : Wb.heap.size < (Wb.alloc (.cells (nums .u64 (zeros 8)) 50)).heap.size := (NumsAt.new Wb _ _ _).lt; omega), hSb.1.size, (Nat.le_trans hSa.1.size htb1), hS9⟩
    · have hSa : SumS w fb (W3.drew.alloc (.cells (nums .u64 (zeros 8)) 50)) := ⟨hS.1.alloc hS.1.size _, heap_under hS.2⟩
      refine wpH_run (w' := W3.drew.alloc (.cells (nums .u64 (zeros 8)) 50)) (some 9) rfl (.pointer (some ⟨W3.drew.heap.size, 0, none⟩)) (by kernel_rfl) ?_
      simp only [Act.put, List.setIfInBounds_toArray, List.set_cons_zero, List.set_cons_succ]
      refine hK _ _ hSa fun _ => ?_
      clear hK K
      refine oneH 2 rfl rfl (by kernel_rfl) fun K hK => ?_
      refine wpH_call (some 45) rfl 47 #[.int .i64 size, .agg #[.int .i64 64, .int .i64 80, .int .i64 28, .int .i64 34, .int .i64 39, .int .i64 14, .int .i64 18, .int .i64 41, .int .i64 1, .int .i64 8, .int .i64 7, .int .i64 19, .int .i64 61, .int .i64 6]] (by kernel_rfl) _ _ (HBEG.out _ (HGW.out.below hSa.1)) fun Wb hWb => ?_
      simp only [Act.put, List.setIfInBounds_toArray, List.set_cons_zero, List.set_cons_succ]
      have hSb := SumS.keep _ Wb hSa hWb
      refine hK _ _ hSb fun _ => ?_
      clear hK K
      refine oneH 4 rfl rfl (by kernel_rfl) fun K hK => ?_
      refine wpH_callE (some 47) rfl 48 #[.agg #[.int .i64 64, .int .i64 80, .int .i64 28, .int .i64 34, .int .i64 39, .int .i64 14, .int .i64 18, .int .i64 41, .int .i64 1, .int .i64 8, .int .i64 7, .int .i64 19, .int .i64 61, .int .i64 6]] (by kernel_rfl) (fun tb : Nat => Value.slice (some ⟨tb, 0, none⟩) 80 80) _ (HTAB.out _ (HGW.out.below hSb.1)) fun tb Wt hWt => ?_
      simp only [Act.put, List.setIfInBounds_toArray, List.set_cons_zero, List.set_cons_succ]
      obtain ⟨htab, htb1, hWt⟩ := hWt
      have hSt := SumS.keep _ Wt hSb hWt
      refine hK _ _ hSt fun _ => ?_
      clear hK K
      have hrow9 : NumsAt Wt W3.drew.heap.size 50 .u64 (zeros 8) := ((NumsAt.new W3.drew _ _ _).below hWb).below hWt
      have htab9 : NumsAt Wt tb 45 .u64 tableL := htab
      have hS9 : SumS w fb (Wt.setRow W3.drew.heap.size (nums .u64 (beginL fr))) := ⟨Below.setRow hSt.1 _ hS.1.size _, by rw [setRow_other _ _ _ _ (by have := hSt.2; intro e; rw [← e] at this; unfold NumsAt at hrow9; rw [hrow9] at this; exact absurd (congrArg (fun o => match o with | some (Obj.cells _ t _) => t | _ => 0) this) (by decide))]; exact hSt.2⟩
      refine oneH 6 rfl rfl (by kernel_rfl) fun K hK => ?_
      refine wpH_store rfl 50 _ _ rfl W3.drew.heap.size (nums .u64 (beginL fr)) (nums .u64 (zeros 8)) 50 rfl rfl hrow9 (by rw [nums_size, hBG]; kernel_rfl) (by rw [nums_size, nums_size, hBG, zeros_length]) (nums_oneCell _ _) ?_
      refine hK _ _ hS9 fun _ => ?_
      clear hK K
      refine oneH 7 rfl rfl (by kernel_rfl) fun K hK => ?_
      refine wpH_run (some 10) rfl (.slice (some ⟨tb, 0, none⟩) 80 80) rfl ?_
      simp only [Act.put, List.setIfInBounds_toArray, List.set_cons_zero, List.set_cons_succ]
      refine hK _ _ hS9 fun _ => ?_
      clear hK K
      refine wpAnyH_done (by kernel_rfl) ?_ _
      go_wp2
      go_meet
      exact ⟨_, tb, rfl, rfl, hrow9.setRow _, htab9.setRow_other _ _ (by have h1 := ((NumsAt.new W3.drew 50 .u64 (zeros 8)).below hWb).lt; omega), (by have h1 := ((NumsAt.new W3.drew 50 .u64 (zeros 8)).below hWb).lt; omega), hS.1.size, (Nat.le_trans hSb.1.size htb1), hS9⟩
  case rest =>
    obtain ⟨hb, tb, rfl, rfl, hrow, htab, hne, hhb, htb1, hS⟩ := hcut
    have HSTEP := Lib.hid (show ∀ k W, 64 * 0 + 128 * k + 128 ≤ all.length → NumsAt W tb 45 .u64 tableL → Calls Tryd.prog 49 #[.agg (nums .u64 (sumN fr all k)), .slice (some ⟨tb, 0, none⟩) 80 80, .string (B (blkB all k)), .agg #[.int .i64 64, .int .i64 80, .int .i64 28, .int .i64 34, .int .i64 39, .int .i64 14, .int .i64 18, .int .i64 41, .int .i64 1, .int .i64 8, .int .i64 7, .int .i64 19, .int .i64 61, .int .i64 6]] W fun e w' => e = .returned (.agg (nums .u64 (sumN fr all (k + 1)))) ∧ Below W.heap.size W w' from
      fun k W hk ht => step_any (sumN fr all k) tableL (blkB all k) tb W (sumN_length _ _ _) (sumN_words _ _ _) (tab_length _ _) ht (by rw [blkB, List.length_take, List.length_drop]; omega))
    have HSNL := Lib.hid (sumN_length fr all)
    have HDONE := Lib.hid HSB.out
    clear HBEG HTAB hBG hbgl hGl HREP HNUM HGW hform hbel HSB
    go_wp2
    go_loopw [8] (fun s8 wr => ∃ k : Nat, 128 * k ≤ all.length ∧ s8 = .string (B (all.drop (128 * k))) ∧ NumsAt wr hb 50 .u64 (sumN fr all k) ∧ NumsAt wr tb 45 .u64 tableL ∧ SumS w fb wr) (fun s _ => match s with | .string b => b.size | _ => 0)
    case atStart => exact ⟨0, by omega, by simp, hrow, htab, hS⟩
    case round =>
      clear hrow htab hS wc
      obtain ⟨k, hk, rfl, hrow, htab, hS⟩ := hrel
      have hpm := HPM.out
      have hhl := HSNL.out k
      by_cases hend : all.length ≤ 128 * k
      · have hkk : all.length / 128 = k := by omega
        rw [show all.drop (128 * k) = [] from List.drop_eq_nil_of_le hend]
        have HKK := Lib.hid hkk
        have HD := Lib.hid (show res = (wordsB (sumN fr all k) 8).take m by rw [HDONE.out, hkk])
        clear hend hkk hpm hk
        have HNUMW := Lib.hid (show ∀ i W, Calls Tryd.prog 43 #[.int .u64 (((sumN fr all k).getD i 0 : Nat) : Int), .int .i64 8] W fun e w' => e = .returned (.string (B (numB ((sumN fr all k).getD i 0) 8))) ∧ Below W.heap.size W w' from fun i W => number_any _ 8 W (by omega))
        have HWL := Lib.hid (wordsB_length (sumN fr all k))
        have HWS := Lib.hid (show ∀ i, wordsB (sumN fr all k) (i + 1) = wordsB (sumN fr all k) i ++ numB ((sumN fr all k).getD i 0) 8 from fun _ => rfl)
        have HWW := Lib.hid (sumN_words fr all k)
        have HSTR := Lib.hid (show wordsB (sumN fr all k) 0 = [] from rfl)
        go_upto_region 10 with fail
        apply wp_region_lit (l := [_, _])
        refine wpList_load_rowTo rfl _ rfl 50 _ rfl hb rfl (nums .u64 (sumN fr all k)) 50 (0, 0) hrow _ Tryd.underlying50 rfl (by rw [nums_size, hhl]; kernel_rfl) ?_
        generalize sumN fr all k = H at *
        generalize wordsB H = ws at *
        go_wp2
        have hS9 := hS
        clear hS hrow htab
        generalize wr = W9 at *
        go_loopw [11, 61] (fun s11 s61 wq => ∃ i : Nat, i ≤ 8 ∧ s61 = .int .i64 i ∧ s11 = .string (B (ws i)) ∧ SumS w fb wq) (fun _ s _ => 8 - (intOf s).toNat)
        case atStart => exact ⟨0, by omega, rfl, by rw [HSTR.out]; rfl, hS9⟩
        case round =>
          clear hS9
          obtain ⟨i, hi, rfl, rfl, hS⟩ := hrel
          have hwl := HWL.out i
          by_cases hi8 : i = 8
          · have hlt8 : ¬ (i : Int) < 8 := by omega
            subst hi8
            go_wp2_with fail
            refine Calls.mono (HSZ.out _) ?_
            rintro _ _ ⟨rfl, rfl⟩
            have hmi : (m : Int) ≤ ((ws 8).length : Int) := by omega
            have hwl8 := hwl
            clear hwl hwl8
            go_wp2
            go_ret
            exact ⟨by rw [HRES.out, HD.out]; rfl, hS.1⟩
          · have hlt8 : (i : Int) < 8 := by omega
            have hidx := fun W => index_nums (P := Tryd.prog) W 50 45 8 i .u64 .i64 (nums .u64 H) _ Tryd.underlying50 Tryd.underlying45 (by kernel_rfl) (by omega) (nums_getD .u64 (by omega))
            have hfc : wr.cell? ⟨fb, 0, none⟩ = some (.int .i64 64) := by rw [cell_of_row wr fb 0 _ _ _ hS.2]; rfl
            have hvl := HWW.out i
            have HNI := Lib.hid (HNUMW.out i)
            have HWSI := Lib.hid (HWS.out i)
            have hnl := numB_length (H.getD i 0) 8
            have hcat : ¬ 9223372036854775807 < (ws i).length + (numB (H.getD i 0) 8).length := by omega
            generalize numB (H.getD i 0) 8 = nb at *
            generalize H.getD i 0 = v at *
            have hwv : IntKind.u64.wrap (v : Int) = (v : Int) := wrap64u _ (by omega)
            have hS10 := Lib.hid hS
            clear hwl hnl hS
            go_wp2_with fail
            refine Calls.below (HNI.out _) fun W10 hW10 => ?_
            go_wp2
            go_round
            case rel => exact ⟨i + 1, by omega, by go_num, by rw [HWSI.out], SumS.keep _ _ hS10.out hW10⟩
            case measure => simp [intOf]; omega
      · have hlt : 128 * k + 128 ≤ all.length := by omega
        have hemp : (all.drop (128 * k)).isEmpty = false := by
          rw [List.isEmpty_eq_false_iff]
          intro e
          have := congrArg List.length e
          rw [List.length_drop] at this
          simp at this
          omega
        obtain ⟨cur, hcur⟩ : ∃ cur, cur = all.drop (128 * k) := ⟨_, rfl⟩
        have hcl : cur.length = all.length - 128 * k := by rw [hcur, List.length_drop]
        have hclb : 128 ≤ cur.length := by omega
        have hcli : (128 : Int) ≤ (cur.length : Int) := by omega
        have HB1 := Lib.hid (show cur.take 128 = blkB all k by rw [hcur]; rfl)
        have HB2 := Lib.hid (show cur.drop 128 = all.drop (128 * (k + 1)) by rw [hcur, List.drop_drop, Nat.mul_add])
        have HCL := Lib.hid hcl
        have HLT := Lib.hid hlt
        rw [← hcur] at hemp ⊢
        have HCU := Lib.hid hcur
        clear hcur hcl hlt hend hpm hk
        go_upto_region 8 with fail
        have hS8 : SumS w fb wr.drew := ⟨hS.1.drew, hS.2⟩
        refine wp_region_held (S := fun W => SumS w fb W) (by kernel_rfl) ?_
        change wpAnyH _ _ _ _ _ _ _ _ wr.drew
        refine takeH 1 rfl rfl (some 54) rfl (.slice (some ⟨tb, 0, none⟩) 80 80) (by kernel_rfl) (by kernel_rfl) (by kernel_rfl) (fun _ _ _ h => h) (fun _ _ => rfl) hS8 ?_
        simp only [Act.put, List.setIfInBounds_toArray, List.set_cons_zero, List.set_cons_succ]
        refine takeH 2 rfl rfl (some 55) rfl (.string (B cur)) (by kernel_rfl) (by kernel_rfl) (by kernel_rfl) (fun _ _ _ h => h) (fun _ _ => rfl) hS8 ?_
        simp only [Act.put, List.setIfInBounds_toArray, List.set_cons_zero, List.set_cons_succ]
        refine takeH 3 rfl rfl (some 56) rfl (.int .i64 128) (by kernel_rfl) (by kernel_rfl) (by kernel_rfl) (fun _ _ _ h => h) (fun _ _ => rfl) hS8 ?_
        simp only [Act.put, List.setIfInBounds_toArray, List.set_cons_zero, List.set_cons_succ]
        refine takeH 4 rfl rfl (some 57) rfl (.string (B (blkB all k))) (by kernel_rfl) (by kernel_rfl) (by kernel_rfl) (fun _ _ _ h => h) (fun w1 _ => by rw [← HB1.out]; go_simp) hS8 ?_
        simp only [Act.put, List.setIfInBounds_toArray, List.set_cons_zero, List.set_cons_succ]
        refine takeH 5 rfl rfl (some 58) rfl (.agg #[.int .i64 64, .int .i64 80, .int .i64 28, .int .i64 34, .int .i64 39, .int .i64 14, .int .i64 18, .int .i64 41, .int .i64 1, .int .i64 8, .int .i64 7, .int .i64 19, .int .i64 61, .int .i64 6]) (by kernel_rfl) (by kernel_rfl) (by kernel_rfl) (fun _ _ _ h => h) (fun w1 h1 => runForm _ rfl rfl h1.2) hS8 ?_
        simp only [Act.put, List.setIfInBounds_toArray, List.set_cons_zero, List.set_cons_succ]
        refine oneH 0 rfl rfl (by kernel_rfl) fun K hK => ?_
        refine wpH_run (w' := wr.drew) (some 53) rfl (.agg (nums .u64 (sumN fr all k))) (run_load_row 50 _ rfl hb rfl _ _ _ hrow.drew _ Tryd.underlying50 rfl (by rw [nums_size, hhl]; kernel_rfl)) ?_
        simp only [Act.put, List.setIfInBounds_toArray, List.set_cons_zero, List.set_cons_succ]
        refine hK _ _ hS8 fun _ => ?_
        clear hK K
        refine oneH 6 rfl rfl (by kernel_rfl) fun K hK => ?_
        refine wpH_call (some 59) rfl 49 #[.agg (nums .u64 (sumN fr all k)), .slice (some ⟨tb, 0, none⟩) 80 80, .string (B (blkB all k)), .agg #[.int .i64 64, .int .i64 80, .int .i64 28, .int .i64 34, .int .i64 39, .int .i64 14, .int .i64 18, .int .i64 41, .int .i64 1, .int .i64 8, .int .i64 7, .int .i64 19, .int .i64 61, .int .i64 6]] (by kernel_rfl) _ _ (HSTEP.out k wr.drew (by have := HLT.out; omega) htab.drew) fun Wc1 hWc1 => ?_
        simp only [Act.put, List.setIfInBounds_toArray, List.set_cons_zero, List.set_cons_succ]
        have hSc1 := SumS.keep wr.drew Wc1 hS8 hWc1
        refine hK _ _ hSc1 fun _ => ?_
        clear hK K
        have hrow9 := hrow.drew.below hWc1
        have htab9 := htab.drew.below hWc1
        have hhl1 := HSNL.out (k + 1)
        have hS9 : SumS w fb (Wc1.setRow hb (nums .u64 (sumN fr all (k + 1)))) := ⟨Below.setRow hSc1.1 _ hhb _, by rw [setRow_other _ _ _ _ (ne_form hrow9 hSc1.2)]; exact hSc1.2⟩
        refine oneH 7 rfl rfl (by kernel_rfl) fun K hK => ?_
        refine wpH_store rfl 50 _ _ rfl hb (nums .u64 (sumN fr all (k + 1))) (nums .u64 (sumN fr all k)) 50 rfl rfl hrow9 (by rw [nums_size, hhl1]; kernel_rfl) (by rw [nums_size, nums_size, hhl1, hhl]) (nums_oneCell _ _) ?_
        refine hK _ _ hS9 fun _ => ?_
        clear hK K
        refine wpAnyH_done (by kernel_rfl) ?_ _
        have HR9 := Lib.hid (hrow9.setRow (sumN fr all (k + 1)))
        have HT9 := Lib.hid (htab9.setRow_other hb (nums .u64 (sumN fr all (k + 1))) hne)
        have HS9 := Lib.hid hS9
        clear hS9 hrow9 htab9 hSc1 hWc1 hS8 hrow htab hS hhl hhl1
        generalize Wc1.setRow hb (nums .u64 (sumN fr all (k + 1))) = W9 at *
        go_wp2
        go_round
        case rel => exact ⟨k + 1, by have := HLT.out; omega, by rw [HB2.out], HR9.out, HT9.out, HS9.out⟩
        case measure =>
          show (B _).size < (B _).size
          rw [B_size, B_size]
          simp only [List.length_drop]
          omega
end Go.Proofs.YtpgadpnaekhiaaaDoor.Sha64
