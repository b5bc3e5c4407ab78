/-
  The reference of SHA-2 with words of 64 bits: the walks of keep, right, three.
  Conditions: words that fit; turns of less than a word.
-/
import Derived.Test.YtpgadpnaekhiaaaDoorShaE64
namespace Go.Proofs.YtpgadpnaekhiaaaDoor.Sha64
open Go.ChangeShapes Go.WideShapes Go.ChangeAt Go.RowKit Go.Deep Go.Proofs.YtpgadpnaekhiaaaDoor.Bw
/-- The reference's form. -/
def RV : Value := .agg #[.int .i64 64, .int .i64 80, .int .u64 28, .int .u64 34, .int .u64 39, .int .u64 14, .int .u64 18, .int .u64 41, .int .u64 1, .int .u64 8, .int .u64 7, .int .u64 19, .int .u64 61, .int .u64 6]
set_option maxRecDepth 100000 in
theorem keep_any (x : Nat) (w : World) (_hx : x < 18446744073709551616) : Calls Tryd.prog 35 #[RV, .int .u64 x] w fun e w' => e = .returned (.int .u64 ((x % 18446744073709551616 : Nat) : Int)) ∧ Below w.heap.size w w' := by
  have hi : (x : Int) % 18446744073709551616 = ((x % 18446744073709551616 : Nat) : Int) := by simp
  have ht : (x : Int).tmod 4294967296 = (x : Int) % 4294967296 := Int.tmod_eq_emod_of_nonneg (Int.natCast_nonneg _)
  generalize x % 18446744073709551616 = y at *
  unfold RV
  go_enter Tryd.func35, Tryd.ntmps35
  go_wp2
  go_ret
  exact ⟨by first | rfl | (simp; omega), by ((repeat' (with_reducible first | exact Below.refl _ _ | assumption | refine Below.drew ?_ | refine below_drewN ?_ _ | refine Below.setCell ?_ ?_ _ | refine Below.alloc ?_ ?_ _ | refine Below.ext ?_ ?_ _ | refine Below.trans ?_ (Below.mono ‹_› ?_))) <;> first | omega | (simp; done) | (simp; omega))⟩
theorem right_nat (x n : Nat) (hx : x < 18446744073709551616) (_hn : 0 < n) (_hn2 : n < 64) : (x / 2 ^ n ||| x * 2 ^ (64 - n) % 18446744073709551616) % 18446744073709551616 = rotr x n := by
  have e : 18446744073709551616 = 2 ^ 64 := by decide
  rw [rotr, e, Nat.or_mod_two_pow]
  congr 1
  · exact Nat.mod_eq_of_lt (by rw [← e]; exact shr_lt n hx)
  · first
      | (rw [show (18446744073709551616 : Nat) = 2 ^ 64 by decide]; exact Nat.mod_mod_of_dvd _ (Nat.pow_dvd_pow 2 (by omega)))
      | exact Nat.mod_mod _ _
set_option maxRecDepth 100000 in
theorem right_any (x n : Nat) (w : World) (hx : x < 18446744073709551616) (hn : 0 < n) (hn2 : n < 64) : Calls Tryd.prog 55 #[RV, .int .u64 x, .int .u64 n] w fun e w' => e = .returned (.int .u64 ((rotr x n : Nat) : Int)) ∧ Below w.heap.size w w' := by
  have l1 : x / 2 ^ n < 18446744073709551616 := Nat.lt_of_lt_of_le (shr_lt n hx) (by omega)
  have l2 : x * 2 ^ (64 - n) % 18446744073709551616 < 18446744073709551616 := Nat.mod_lt _ (by omega)
  have hyr := right_nat x n hx hn hn2
  have hor := or64 _ _ l1 l2
  have hyl := or_lt64 l1 l2
  rw [show ((x / 2 ^ n : Nat) : Int) = (x : Int) / 2 ^ n by simp, show ((x * 2 ^ (64 - n) % 18446744073709551616 : Nat) : Int) = (x : Int) * 2 ^ (64 - n) % 18446744073709551616 by simp] at hor
  generalize x / 2 ^ n ||| x * 2 ^ (64 - n) % 18446744073709551616 = y at *
  have HK := Lib.hid fun W => keep_any y W hyl
  rw [hyr] at HK
  clear l1 l2 hyr
  have hni : (n : Int) < 64 := by omega
  generalize rotr x n = r at *
  obtain ⟨m, hm⟩ : ∃ m, m = 64 - n := ⟨_, rfl⟩
  rw [← hm, ← show IntKind.u64.wrap ((x : Int) * 2 ^ m) = (x : Int) * 2 ^ m % 18446744073709551616 by simp [IntKind.wrap, IntKind.bits, IntKind.signed]] at hor
  have hsub : (64 : Int) - (n : Int) = (m : Int) := by omega
  have hm64 : (m : Int) < 64 := by omega
  have hm0 : m < 18446744073709551616 := by omega
  clear hm
  unfold RV at *
  go_enter Tryd.func55, Tryd.ntmps55
  go_wp2_with fail
  refine Calls.ext (HK.out _) fun u => ?_
  go_wp2
  go_ret
  exact ⟨rfl, by ((repeat' (with_reducible first | exact Below.refl _ _ | assumption | refine Below.drew ?_ | refine below_drewN ?_ _ | refine Below.setCell ?_ ?_ _ | refine Below.alloc ?_ ?_ _ | refine Below.ext ?_ ?_ _ | refine Below.trans ?_ (Below.mono ‹_› ?_))) <;> first | omega | (simp; done) | (simp; omega))⟩
/-- What the reference's regions keep. -/
def RefS (w W : World) : Prop := Below w.heap.size w W ∧ W.heap[w.heap.size]? = some (.cells #[.int .i64 64, .int .i64 80, .int .u64 28, .int .u64 34, .int .u64 39, .int .u64 14, .int .u64 18, .int .u64 41, .int .u64 1, .int .u64 8, .int .u64 7, .int .u64 19, .int .u64 61, .int .u64 6] 48 (0, 0))
theorem RefS.keep {w : World} (W W1 : World) (h : RefS w W) (hb : Below W.heap.size W W1) : RefS w W1 :=
  ⟨h.1.trans (hb.mono h.1.size), below_heap hb (lt_of_heap h.2) h.2⟩
theorem runFormR {o : Oper} {a : Act} {W : World} {b : Nat} (x : Operand) (ho : o.op = .load 48 x) (hx : a.eval x = .pointer (some ⟨b, 0, none⟩)) (h : W.heap[b]? = some (.cells #[.int .i64 64, .int .i64 80, .int .u64 28, .int .u64 34, .int .u64 39, .int .u64 14, .int .u64 18, .int .u64 41, .int .u64 1, .int .u64 8, .int .u64 7, .int .u64 19, .int .u64 61, .int .u64 6] 48 (0, 0))) : (execOp a.eval o).run Tryd.prog W = .ok (.value (.agg #[.int .i64 64, .int .i64 80, .int .u64 28, .int .u64 34, .int .u64 39, .int .u64 14, .int .u64 18, .int .u64 41, .int .u64 1, .int .u64 8, .int .u64 7, .int .u64 19, .int .u64 61, .int .u64 6])) W :=
  run_load_row 48 x ho b hx _ _ _ h _ Tryd.underlying48 rfl (by kernel_rfl)
theorem atTwelve (W : World) (b o i : Nat) (h : i < 12) : (Instr.indexAt 46 (.pointer (some ⟨b, o, none⟩)) (.int .i64 (i : Int))).run Tryd.prog W = .ok (.pointer (some ⟨b, o + i, none⟩)) W := by
  have hi : (i : Int) < 12 := by omega
  go_simp
theorem runXor64 {o : Oper} {a : Act} {w : World} (x y : Operand) (tp : TypeId) (ho : o.op = .binOp .xor 45 x y tp) (m n : Nat) (hx : a.eval x = .int .u64 (m : Int)) (hy : a.eval y = .int .u64 (n : Int)) (hm : m < 18446744073709551616) (hn : n < 18446744073709551616) :
    (execOp a.eval o).run Tryd.prog w = .ok (.value (.int .u64 ((m ^^^ n : Nat) : Int))) w := by
  unfold execOp
  simp only [ho, hx, hy]
  rw [← xor64 m n hm hn]
  go_simp
set_option maxRecDepth 100000 in
theorem three_b0_any (x : Nat) (w : World) (hx : x < 18446744073709551616) : Calls Tryd.prog 36 #[RV, .int .u64 x, .int .i64 0, .bool false] w fun e w' => e = .returned (.int .u64 ((bigS x 28 34 39 : Nat) : Int)) ∧ Below w.heap.size w w' := by
  have HA := Lib.hid fun W => right_any x 28 W hx (by omega) (by omega)
  have HB := Lib.hid fun W => right_any x 34 W hx (by omega) (by omega)
  have HC := Lib.hid fun W => right_any x 39 W hx (by omega) (by omega)
  have la : rotr x 28 < 18446744073709551616 := Nat.lt_of_lt_of_le (rotr_lt 28 hx) (by omega)
  have lb : rotr x 34 < 18446744073709551616 := Nat.lt_of_lt_of_le (rotr_lt 34 hx) (by omega)
  have lc : rotr x 39 < 18446744073709551616 := Nat.lt_of_lt_of_le (rotr_lt 39 hx) (by omega)
  have HS := Lib.hid (show bigS x 28 34 39 = rotr x 28 ^^^ rotr x 34 ^^^ rotr x 39 from rfl)
  have HSH := Lib.hid (show (x : Int) / 549755813888 = ((x / 2 ^ 39 : Nat) : Int) from by simp)
  generalize bigS x 28 34 39 = r at *
  generalize rotr x 28 = xa at *
  generalize rotr x 34 = xb at *
  generalize rotr x 39 = xc at *
  generalize x / 2 ^ 39 = x0 at *
  have hxl : x < 18446744073709551616 := by omega
  have hsh := HSH.out
  unfold RV at *
  go_enter Tryd.func36, Tryd.ntmps36
  go_upto_region 3 with fail
  have hS : RefS w (w.alloc (.cells #[.int .i64 64, .int .i64 80, .int .u64 28, .int .u64 34, .int .u64 39, .int .u64 14, .int .u64 18, .int .u64 41, .int .u64 1, .int .u64 8, .int .u64 7, .int .u64 19, .int .u64 61, .int .u64 6] 48)) := ⟨(Below.refl _ _).alloc (Nat.le_refl _) _, heap_alloc_last w _⟩
  generalize w.alloc (.cells #[.int .i64 64, .int .i64 80, .int .u64 28, .int .u64 34, .int .u64 39, .int .u64 14, .int .u64 18, .int .u64 41, .int .u64 1, .int .u64 8, .int .u64 7, .int .u64 19, .int .u64 61, .int .u64 6] 48) = W0 at *
  replace hS : RefS w W0.drew := ⟨hS.1.drew, hS.2⟩
  refine wp_region_held (S := fun W => RefS w W) (by kernel_rfl) ?_
  change wpAnyH _ _ _ _ _ _ _ _ W0.drew
  refine takeH 0 rfl rfl (some 19) rfl (.agg #[.int .i64 64, .int .i64 80, .int .u64 28, .int .u64 34, .int .u64 39, .int .u64 14, .int .u64 18, .int .u64 41, .int .u64 1, .int .u64 8, .int .u64 7, .int .u64 19, .int .u64 61, .int .u64 6]) (by kernel_rfl) (by kernel_rfl) (by kernel_rfl) (fun _ _ _ h => h) (fun w1 h1 => runFormR _ rfl rfl h1.2) hS ?_
  simp only [Act.put, List.setIfInBounds_toArray, List.set_cons_zero, List.set_cons_succ]
  refine takeH 1 rfl rfl (some 20) rfl (.int .u64 (x : Int)) (by kernel_rfl) (by kernel_rfl) (by kernel_rfl) (fun _ _ _ h => h) (fun _ _ => rfl) hS ?_
  simp only [Act.put, List.setIfInBounds_toArray, List.set_cons_zero, List.set_cons_succ]
  refine takeH 2 rfl rfl (some 21) rfl (.int .i64 0) (by kernel_rfl) (by kernel_rfl) (by kernel_rfl) (fun _ _ _ h => h) (fun _ _ => rfl) hS ?_
  simp only [Act.put, List.setIfInBounds_toArray, List.set_cons_zero, List.set_cons_succ]
  refine takeH 3 rfl rfl (some 22) rfl (.int .i64 2) (by kernel_rfl) (by kernel_rfl) (by kernel_rfl) (fun _ _ _ h => h) (fun _ _ => rfl) hS ?_
  simp only [Act.put, List.setIfInBounds_toArray, List.set_cons_zero, List.set_cons_succ]
  refine takeH 4 rfl rfl (some 23) rfl (.pointer (some ⟨w.heap.size, 2, none⟩)) (by kernel_rfl) (by kernel_rfl) (by kernel_rfl) (fun _ _ _ h => h) (fun _ _ => by kernel_rfl) hS ?_
  simp only [Act.put, List.setIfInBounds_toArray, List.set_cons_zero, List.set_cons_succ]
  refine takeH 5 rfl rfl (some 24) rfl (.pointer (some ⟨w.heap.size, 4, none⟩)) (by kernel_rfl) (by kernel_rfl) (by kernel_rfl) (fun _ _ _ h => h) (fun w1 _ => runAt _ _ _ rfl _ _ _ rfl rfl (atTwelve w1 _ 2 2 (by omega))) hS ?_
  simp only [Act.put, List.setIfInBounds_toArray, List.set_cons_zero, List.set_cons_succ]
  refine takeH 6 rfl rfl (some 25) rfl (.int .u64 39) (by kernel_rfl) (by kernel_rfl) (by kernel_rfl) (fun _ _ _ h => h) (fun w1 h1 => runLoad _ _ rfl _ _ rfl (ldWord w1 _ _ (by rw [cell_of_row _ _ _ _ _ _ h1.2]; rfl))) hS ?_
  simp only [Act.put, List.setIfInBounds_toArray, List.set_cons_zero, List.set_cons_succ]
  refine oneH 7 rfl rfl (by kernel_rfl) fun K hK => ?_
  refine wpH_call (some 26) rfl 55 #[.agg #[.int .i64 64, .int .i64 80, .int .u64 28, .int .u64 34, .int .u64 39, .int .u64 14, .int .u64 18, .int .u64 41, .int .u64 1, .int .u64 8, .int .u64 7, .int .u64 19, .int .u64 61, .int .u64 6], .int .u64 (x : Int), .int .u64 39] (by kernel_rfl) _ _ (HC.out _) fun Wc1 hWc1 => ?_
  simp only [Act.put, List.setIfInBounds_toArray, List.set_cons_zero, List.set_cons_succ]
  have hSc1 := RefS.keep W0.drew Wc1 hS hWc1
  refine hK _ _ hSc1 fun _ => ?_
  clear hK K
  refine takeH 8 rfl rfl (some 9) rfl (.int .u64 (xc : Int)) (by kernel_rfl) (by kernel_rfl) (by kernel_rfl) (fun _ _ _ h => h) (fun _ _ => rfl) hSc1 ?_
  simp only [Act.put, List.setIfInBounds_toArray, List.set_cons_zero, List.set_cons_succ]
  refine wpAnyH_done (by kernel_rfl) ?_ _
  clear hS hWc1
  generalize Wc1 = W1 at *
  go_upto_region 4 with fail
  have hS : RefS w W1.drew := ⟨hSc1.1.drew, hSc1.2⟩
  clear hSc1
  refine wp_region_held (S := fun W => RefS w W) (by kernel_rfl) ?_
  change wpAnyH _ _ _ _ _ _ _ _ W1.drew
  refine takeH 0 rfl rfl (some 27) rfl (.agg #[.int .i64 64, .int .i64 80, .int .u64 28, .int .u64 34, .int .u64 39, .int .u64 14, .int .u64 18, .int .u64 41, .int .u64 1, .int .u64 8, .int .u64 7, .int .u64 19, .int .u64 61, .int .u64 6]) (by kernel_rfl) (by kernel_rfl) (by kernel_rfl) (fun _ _ _ h => h) (fun w1 h1 => runFormR _ rfl rfl h1.2) hS ?_
  simp only [Act.put, List.setIfInBounds_toArray, List.set_cons_zero, List.set_cons_succ]
  refine takeH 1 rfl rfl (some 28) rfl (.int .u64 (x : Int)) (by kernel_rfl) (by kernel_rfl) (by kernel_rfl) (fun _ _ _ h => h) (fun _ _ => rfl) hS ?_
  simp only [Act.put, List.setIfInBounds_toArray, List.set_cons_zero, List.set_cons_succ]
  refine takeH 2 rfl rfl (some 29) rfl (.int .i64 0) (by kernel_rfl) (by kernel_rfl) (by kernel_rfl) (fun _ _ _ h => h) (fun _ _ => rfl) hS ?_
  simp only [Act.put, List.setIfInBounds_toArray, List.set_cons_zero, List.set_cons_succ]
  refine takeH 3 rfl rfl (some 30) rfl (.pointer (some ⟨w.heap.size, 2, none⟩)) (by kernel_rfl) (by kernel_rfl) (by kernel_rfl) (fun _ _ _ h => h) (fun _ _ => by kernel_rfl) hS ?_
  simp only [Act.put, List.setIfInBounds_toArray, List.set_cons_zero, List.set_cons_succ]
  refine takeH 4 rfl rfl (some 31) rfl (.pointer (some ⟨w.heap.size, 2, none⟩)) (by kernel_rfl) (by kernel_rfl) (by kernel_rfl) (fun _ _ _ h => h) (fun w1 _ => runAt _ _ _ rfl _ _ _ rfl rfl (atTwelve w1 _ 2 0 (by omega))) hS ?_
  simp only [Act.put, List.setIfInBounds_toArray, List.set_cons_zero, List.set_cons_succ]
  refine takeH 5 rfl rfl (some 32) rfl (.int .u64 28) (by kernel_rfl) (by kernel_rfl) (by kernel_rfl) (fun _ _ _ h => h) (fun w1 h1 => runLoad _ _ rfl _ _ rfl (ldWord w1 _ _ (by rw [cell_of_row _ _ _ _ _ _ h1.2]; rfl))) hS ?_
  simp only [Act.put, List.setIfInBounds_toArray, List.set_cons_zero, List.set_cons_succ]
  refine takeH 7 rfl rfl (some 34) rfl (.agg #[.int .i64 64, .int .i64 80, .int .u64 28, .int .u64 34, .int .u64 39, .int .u64 14, .int .u64 18, .int .u64 41, .int .u64 1, .int .u64 8, .int .u64 7, .int .u64 19, .int .u64 61, .int .u64 6]) (by kernel_rfl) (by kernel_rfl) (by kernel_rfl) (fun _ _ _ h => h) (fun w1 h1 => runFormR _ rfl rfl h1.2) hS ?_
  simp only [Act.put, List.setIfInBounds_toArray, List.set_cons_zero, List.set_cons_succ]
  refine takeH 8 rfl rfl (some 35) rfl (.int .u64 (x : Int)) (by kernel_rfl) (by kernel_rfl) (by kernel_rfl) (fun _ _ _ h => h) (fun _ _ => rfl) hS ?_
  simp only [Act.put, List.setIfInBounds_toArray, List.set_cons_zero, List.set_cons_succ]
  refine takeH 9 rfl rfl (some 36) rfl (.int .i64 0) (by kernel_rfl) (by kernel_rfl) (by kernel_rfl) (fun _ _ _ h => h) (fun _ _ => rfl) hS ?_
  simp only [Act.put, List.setIfInBounds_toArray, List.set_cons_zero, List.set_cons_succ]
  refine takeH 10 rfl rfl (some 37) rfl (.int .i64 1) (by kernel_rfl) (by kernel_rfl) (by kernel_rfl) (fun _ _ _ h => h) (fun _ _ => rfl) hS ?_
  simp only [Act.put, List.setIfInBounds_toArray, List.set_cons_zero, List.set_cons_succ]
  refine takeH 11 rfl rfl (some 38) rfl (.pointer (some ⟨w.heap.size, 2, none⟩)) (by kernel_rfl) (by kernel_rfl) (by kernel_rfl) (fun _ _ _ h => h) (fun _ _ => by kernel_rfl) hS ?_
  simp only [Act.put, List.setIfInBounds_toArray, List.set_cons_zero, List.set_cons_succ]
  refine takeH 12 rfl rfl (some 39) rfl (.pointer (some ⟨w.heap.size, 3, none⟩)) (by kernel_rfl) (by kernel_rfl) (by kernel_rfl) (fun _ _ _ h => h) (fun w1 _ => runAt _ _ _ rfl _ _ _ rfl rfl (atTwelve w1 _ 2 1 (by omega))) hS ?_
  simp only [Act.put, List.setIfInBounds_toArray, List.set_cons_zero, List.set_cons_succ]
  refine takeH 13 rfl rfl (some 40) rfl (.int .u64 34) (by kernel_rfl) (by kernel_rfl) (by kernel_rfl) (fun _ _ _ h => h) (fun w1 h1 => runLoad _ _ rfl _ _ rfl (ldWord w1 _ _ (by rw [cell_of_row _ _ _ _ _ _ h1.2]; rfl))) hS ?_
  simp only [Act.put, List.setIfInBounds_toArray, List.set_cons_zero, List.set_cons_succ]
  refine takeH 16 rfl rfl (some 43) rfl (.int .u64 (xc : Int)) (by kernel_rfl) (by kernel_rfl) (by kernel_rfl) (fun _ _ _ h => h) (fun _ _ => rfl) hS ?_
  simp only [Act.put, List.setIfInBounds_toArray, List.set_cons_zero, List.set_cons_succ]
  refine oneH 6 rfl rfl (by kernel_rfl) fun K hK => ?_
  refine wpH_call (some 33) rfl 55 #[.agg #[.int .i64 64, .int .i64 80, .int .u64 28, .int .u64 34, .int .u64 39, .int .u64 14, .int .u64 18, .int .u64 41, .int .u64 1, .int .u64 8, .int .u64 7, .int .u64 19, .int .u64 61, .int .u64 6], .int .u64 (x : Int), .int .u64 28] (by kernel_rfl) _ _ (HA.out _) fun Wc1 hWc1 => ?_
  simp only [Act.put, List.setIfInBounds_toArray, List.set_cons_zero, List.set_cons_succ]
  have hSc1 := RefS.keep W1.drew Wc1 hS hWc1
  refine hK _ _ hSc1 fun _ => ?_
  clear hK K
  refine oneH 14 rfl rfl (by kernel_rfl) fun K hK => ?_
  refine wpH_call (some 41) rfl 55 #[.agg #[.int .i64 64, .int .i64 80, .int .u64 28, .int .u64 34, .int .u64 39, .int .u64 14, .int .u64 18, .int .u64 41, .int .u64 1, .int .u64 8, .int .u64 7, .int .u64 19, .int .u64 61, .int .u64 6], .int .u64 (x : Int), .int .u64 34] (by kernel_rfl) _ _ (HB.out _) fun Wc2 hWc2 => ?_
  simp only [Act.put, List.setIfInBounds_toArray, List.set_cons_zero, List.set_cons_succ]
  have hSc2 := RefS.keep Wc1 Wc2 hSc1 hWc2
  refine hK _ _ hSc2 fun _ => ?_
  clear hK K
  refine takeH 15 rfl rfl (some 42) rfl (.int .u64 ((xa ^^^ xb : Nat) : Int)) (by kernel_rfl) (by kernel_rfl) (by kernel_rfl) (fun _ _ _ h => h) (fun w1 _ => runXor64 _ _ _ rfl _ _ rfl rfl la lb) hSc2 ?_
  simp only [Act.put, List.setIfInBounds_toArray, List.set_cons_zero, List.set_cons_succ]
  refine takeH 17 rfl rfl (some 44) rfl (.int .u64 ((xa ^^^ xb ^^^ xc : Nat) : Int)) (by kernel_rfl) (by kernel_rfl) (by kernel_rfl) (fun _ _ _ h => h) (fun w1 _ => runXor64 _ _ _ rfl _ _ rfl rfl (xor_lt64 la lb) lc) hSc2 ?_
  simp only [Act.put, List.setIfInBounds_toArray, List.set_cons_zero, List.set_cons_succ]
  refine takeH 18 rfl rfl (some 8) rfl (.int .u64 ((xa ^^^ xb ^^^ xc : Nat) : Int)) (by kernel_rfl) (by kernel_rfl) (by kernel_rfl) (fun _ _ _ h => h) (fun _ _ => rfl) hSc2 ?_
  simp only [Act.put, List.setIfInBounds_toArray, List.set_cons_zero, List.set_cons_succ]
  refine wpAnyH_done (by kernel_rfl) ?_ _
  rw [← HS.out]
  go_wp2
  go_ret
  exact ⟨rfl, hSc2.1⟩
set_option maxRecDepth 100000 in
theorem three_b1_any (x : Nat) (w : World) (hx : x < 18446744073709551616) : Calls Tryd.prog 36 #[RV, .int .u64 x, .int .i64 3, .bool false] w fun e w' => e = .returned (.int .u64 ((bigS x 14 18 41 : Nat) : Int)) ∧ Below w.heap.size w w' := by
  have HA := Lib.hid fun W => right_any x 14 W hx (by omega) (by omega)
  have HB := Lib.hid fun W => right_any x 18 W hx (by omega) (by omega)
  have HC := Lib.hid fun W => right_any x 41 W hx (by omega) (by omega)
  have la : rotr x 14 < 18446744073709551616 := Nat.lt_of_lt_of_le (rotr_lt 14 hx) (by omega)
  have lb : rotr x 18 < 18446744073709551616 := Nat.lt_of_lt_of_le (rotr_lt 18 hx) (by omega)
  have lc : rotr x 41 < 18446744073709551616 := Nat.lt_of_lt_of_le (rotr_lt 41 hx) (by omega)
  have HS := Lib.hid (show bigS x 14 18 41 = rotr x 14 ^^^ rotr x 18 ^^^ rotr x 41 from rfl)
  have HSH := Lib.hid (show (x : Int) / 2199023255552 = ((x / 2 ^ 41 : Nat) : Int) from by simp)
  generalize bigS x 14 18 41 = r at *
  generalize rotr x 14 = xa at *
  generalize rotr x 18 = xb at *
  generalize rotr x 41 = xc at *
  generalize x / 2 ^ 41 = x0 at *
  have hxl : x < 18446744073709551616 := by omega
  have hsh := HSH.out
  unfold RV at *
  go_enter Tryd.func36, Tryd.ntmps36
  go_upto_region 3 with fail
  have hS : RefS w (w.alloc (.cells #[.int .i64 64, .int .i64 80, .int .u64 28, .int .u64 34, .int .u64 39, .int .u64 14, .int .u64 18, .int .u64 41, .int .u64 1, .int .u64 8, .int .u64 7, .int .u64 19, .int .u64 61, .int .u64 6] 48)) := ⟨(Below.refl _ _).alloc (Nat.le_refl _) _, heap_alloc_last w _⟩
  generalize w.alloc (.cells #[.int .i64 64, .int .i64 80, .int .u64 28, .int .u64 34, .int .u64 39, .int .u64 14, .int .u64 18, .int .u64 41, .int .u64 1, .int .u64 8, .int .u64 7, .int .u64 19, .int .u64 61, .int .u64 6] 48) = W0 at *
  replace hS : RefS w W0.drew := ⟨hS.1.drew, hS.2⟩
  refine wp_region_held (S := fun W => RefS w W) (by kernel_rfl) ?_
  change wpAnyH _ _ _ _ _ _ _ _ W0.drew
  refine takeH 0 rfl rfl (some 19) rfl (.agg #[.int .i64 64, .int .i64 80, .int .u64 28, .int .u64 34, .int .u64 39, .int .u64 14, .int .u64 18, .int .u64 41, .int .u64 1, .int .u64 8, .int .u64 7, .int .u64 19, .int .u64 61, .int .u64 6]) (by kernel_rfl) (by kernel_rfl) (by kernel_rfl) (fun _ _ _ h => h) (fun w1 h1 => runFormR _ rfl rfl h1.2) hS ?_
  simp only [Act.put, List.setIfInBounds_toArray, List.set_cons_zero, List.set_cons_succ]
  refine takeH 1 rfl rfl (some 20) rfl (.int .u64 (x : Int)) (by kernel_rfl) (by kernel_rfl) (by kernel_rfl) (fun _ _ _ h => h) (fun _ _ => rfl) hS ?_
  simp only [Act.put, List.setIfInBounds_toArray, List.set_cons_zero, List.set_cons_succ]
  refine takeH 2 rfl rfl (some 21) rfl (.int .i64 3) (by kernel_rfl) (by kernel_rfl) (by kernel_rfl) (fun _ _ _ h => h) (fun _ _ => rfl) hS ?_
  simp only [Act.put, List.setIfInBounds_toArray, List.set_cons_zero, List.set_cons_succ]
  refine takeH 3 rfl rfl (some 22) rfl (.int .i64 5) (by kernel_rfl) (by kernel_rfl) (by kernel_rfl) (fun _ _ _ h => h) (fun _ _ => rfl) hS ?_
  simp only [Act.put, List.setIfInBounds_toArray, List.set_cons_zero, List.set_cons_succ]
  refine takeH 4 rfl rfl (some 23) rfl (.pointer (some ⟨w.heap.size, 2, none⟩)) (by kernel_rfl) (by kernel_rfl) (by kernel_rfl) (fun _ _ _ h => h) (fun _ _ => by kernel_rfl) hS ?_
  simp only [Act.put, List.setIfInBounds_toArray, List.set_cons_zero, List.set_cons_succ]
  refine takeH 5 rfl rfl (some 24) rfl (.pointer (some ⟨w.heap.size, 7, none⟩)) (by kernel_rfl) (by kernel_rfl) (by kernel_rfl) (fun _ _ _ h => h) (fun w1 _ => runAt _ _ _ rfl _ _ _ rfl rfl (atTwelve w1 _ 2 5 (by omega))) hS ?_
  simp only [Act.put, List.setIfInBounds_toArray, List.set_cons_zero, List.set_cons_succ]
  refine takeH 6 rfl rfl (some 25) rfl (.int .u64 41) (by kernel_rfl) (by kernel_rfl) (by kernel_rfl) (fun _ _ _ h => h) (fun w1 h1 => runLoad _ _ rfl _ _ rfl (ldWord w1 _ _ (by rw [cell_of_row _ _ _ _ _ _ h1.2]; rfl))) hS ?_
  simp only [Act.put, List.setIfInBounds_toArray, List.set_cons_zero, List.set_cons_succ]
  refine oneH 7 rfl rfl (by kernel_rfl) fun K hK => ?_
  refine wpH_call (some 26) rfl 55 #[.agg #[.int .i64 64, .int .i64 80, .int .u64 28, .int .u64 34, .int .u64 39, .int .u64 14, .int .u64 18, .int .u64 41, .int .u64 1, .int .u64 8, .int .u64 7, .int .u64 19, .int .u64 61, .int .u64 6], .int .u64 (x : Int), .int .u64 41] (by kernel_rfl) _ _ (HC.out _) fun Wc1 hWc1 => ?_
  simp only [Act.put, List.setIfInBounds_toArray, List.set_cons_zero, List.set_cons_succ]
  have hSc1 := RefS.keep W0.drew Wc1 hS hWc1
  refine hK _ _ hSc1 fun _ => ?_
  clear hK K
  refine takeH 8 rfl rfl (some 9) rfl (.int .u64 (xc : Int)) (by kernel_rfl) (by kernel_rfl) (by kernel_rfl) (fun _ _ _ h => h) (fun _ _ => rfl) hSc1 ?_
  simp only [Act.put, List.setIfInBounds_toArray, List.set_cons_zero, List.set_cons_succ]
  refine wpAnyH_done (by kernel_rfl) ?_ _
  clear hS hWc1
  generalize Wc1 = W1 at *
  go_upto_region 4 with fail
  have hS : RefS w W1.drew := ⟨hSc1.1.drew, hSc1.2⟩
  clear hSc1
  refine wp_region_held (S := fun W => RefS w W) (by kernel_rfl) ?_
  change wpAnyH _ _ _ _ _ _ _ _ W1.drew
  refine takeH 0 rfl rfl (some 27) rfl (.agg #[.int .i64 64, .int .i64 80, .int .u64 28, .int .u64 34, .int .u64 39, .int .u64 14, .int .u64 18, .int .u64 41, .int .u64 1, .int .u64 8, .int .u64 7, .int .u64 19, .int .u64 61, .int .u64 6]) (by kernel_rfl) (by kernel_rfl) (by kernel_rfl) (fun _ _ _ h => h) (fun w1 h1 => runFormR _ rfl rfl h1.2) hS ?_
  simp only [Act.put, List.setIfInBounds_toArray, List.set_cons_zero, List.set_cons_succ]
  refine takeH 1 rfl rfl (some 28) rfl (.int .u64 (x : Int)) (by kernel_rfl) (by kernel_rfl) (by kernel_rfl) (fun _ _ _ h => h) (fun _ _ => rfl) hS ?_
  simp only [Act.put, List.setIfInBounds_toArray, List.set_cons_zero, List.set_cons_succ]
  refine takeH 2 rfl rfl (some 29) rfl (.int .i64 3) (by kernel_rfl) (by kernel_rfl) (by kernel_rfl) (fun _ _ _ h => h) (fun _ _ => rfl) hS ?_
  simp only [Act.put, List.setIfInBounds_toArray, List.set_cons_zero, List.set_cons_succ]
  refine takeH 3 rfl rfl (some 30) rfl (.pointer (some ⟨w.heap.size, 2, none⟩)) (by kernel_rfl) (by kernel_rfl) (by kernel_rfl) (fun _ _ _ h => h) (fun _ _ => by kernel_rfl) hS ?_
  simp only [Act.put, List.setIfInBounds_toArray, List.set_cons_zero, List.set_cons_succ]
  refine takeH 4 rfl rfl (some 31) rfl (.pointer (some ⟨w.heap.size, 5, none⟩)) (by kernel_rfl) (by kernel_rfl) (by kernel_rfl) (fun _ _ _ h => h) (fun w1 _ => runAt _ _ _ rfl _ _ _ rfl rfl (atTwelve w1 _ 2 3 (by omega))) hS ?_
  simp only [Act.put, List.setIfInBounds_toArray, List.set_cons_zero, List.set_cons_succ]
  refine takeH 5 rfl rfl (some 32) rfl (.int .u64 14) (by kernel_rfl) (by kernel_rfl) (by kernel_rfl) (fun _ _ _ h => h) (fun w1 h1 => runLoad _ _ rfl _ _ rfl (ldWord w1 _ _ (by rw [cell_of_row _ _ _ _ _ _ h1.2]; rfl))) hS ?_
  simp only [Act.put, List.setIfInBounds_toArray, List.set_cons_zero, List.set_cons_succ]
  refine takeH 7 rfl rfl (some 34) rfl (.agg #[.int .i64 64, .int .i64 80, .int .u64 28, .int .u64 34, .int .u64 39, .int .u64 14, .int .u64 18, .int .u64 41, .int .u64 1, .int .u64 8, .int .u64 7, .int .u64 19, .int .u64 61, .int .u64 6]) (by kernel_rfl) (by kernel_rfl) (by kernel_rfl) (fun _ _ _ h => h) (fun w1 h1 => runFormR _ rfl rfl h1.2) hS ?_
  simp only [Act.put, List.setIfInBounds_toArray, List.set_cons_zero, List.set_cons_succ]
  refine takeH 8 rfl rfl (some 35) rfl (.int .u64 (x : Int)) (by kernel_rfl) (by kernel_rfl) (by kernel_rfl) (fun _ _ _ h => h) (fun _ _ => rfl) hS ?_
  simp only [Act.put, List.setIfInBounds_toArray, List.set_cons_zero, List.set_cons_succ]
  refine takeH 9 rfl rfl (some 36) rfl (.int .i64 3) (by kernel_rfl) (by kernel_rfl) (by kernel_rfl) (fun _ _ _ h => h) (fun _ _ => rfl) hS ?_
  simp only [Act.put, List.setIfInBounds_toArray, List.set_cons_zero, List.set_cons_succ]
  refine takeH 10 rfl rfl (some 37) rfl (.int .i64 4) (by kernel_rfl) (by kernel_rfl) (by kernel_rfl) (fun _ _ _ h => h) (fun _ _ => rfl) hS ?_
  simp only [Act.put, List.setIfInBounds_toArray, List.set_cons_zero, List.set_cons_succ]
  refine takeH 11 rfl rfl (some 38) rfl (.pointer (some ⟨w.heap.size, 2, none⟩)) (by kernel_rfl) (by kernel_rfl) (by kernel_rfl) (fun _ _ _ h => h) (fun _ _ => by kernel_rfl) hS ?_
  simp only [Act.put, List.setIfInBounds_toArray, List.set_cons_zero, List.set_cons_succ]
  refine takeH 12 rfl rfl (some 39) rfl (.pointer (some ⟨w.heap.size, 6, none⟩)) (by kernel_rfl) (by kernel_rfl) (by kernel_rfl) (fun _ _ _ h => h) (fun w1 _ => runAt _ _ _ rfl _ _ _ rfl rfl (atTwelve w1 _ 2 4 (by omega))) hS ?_
  simp only [Act.put, List.setIfInBounds_toArray, List.set_cons_zero, List.set_cons_succ]
  refine takeH 13 rfl rfl (some 40) rfl (.int .u64 18) (by kernel_rfl) (by kernel_rfl) (by kernel_rfl) (fun _ _ _ h => h) (fun w1 h1 => runLoad _ _ rfl _ _ rfl (ldWord w1 _ _ (by rw [cell_of_row _ _ _ _ _ _ h1.2]; rfl))) hS ?_
  simp only [Act.put, List.setIfInBounds_toArray, List.set_cons_zero, List.set_cons_succ]
  refine takeH 16 rfl rfl (some 43) rfl (.int .u64 (xc : Int)) (by kernel_rfl) (by kernel_rfl) (by kernel_rfl) (fun _ _ _ h => h) (fun _ _ => rfl) hS ?_
  simp only [Act.put, List.setIfInBounds_toArray, List.set_cons_zero, List.set_cons_succ]
  refine oneH 6 rfl rfl (by kernel_rfl) fun K hK => ?_
  refine wpH_call (some 33) rfl 55 #[.agg #[.int .i64 64, .int .i64 80, .int .u64 28, .int .u64 34, .int .u64 39, .int .u64 14, .int .u64 18, .int .u64 41, .int .u64 1, .int .u64 8, .int .u64 7, .int .u64 19, .int .u64 61, .int .u64 6], .int .u64 (x : Int), .int .u64 14] (by kernel_rfl) _ _ (HA.out _) fun Wc1 hWc1 => ?_
  simp only [Act.put, List.setIfInBounds_toArray, List.set_cons_zero, List.set_cons_succ]
  have hSc1 := RefS.keep W1.drew Wc1 hS hWc1
  refine hK _ _ hSc1 fun _ => ?_
  clear hK K
  refine oneH 14 rfl rfl (by kernel_rfl) fun K hK => ?_
  refine wpH_call (some 41) rfl 55 #[.agg #[.int .i64 64, .int .i64 80, .int .u64 28, .int .u64 34, .int .u64 39, .int .u64 14, .int .u64 18, .int .u64 41, .int .u64 1, .int .u64 8, .int .u64 7, .int .u64 19, .int .u64 61, .int .u64 6], .int .u64 (x : Int), .int .u64 18] (by kernel_rfl) _ _ (HB.out _) fun Wc2 hWc2 => ?_
  simp only [Act.put, List.setIfInBounds_toArray, List.set_cons_zero, List.set_cons_succ]
  have hSc2 := RefS.keep Wc1 Wc2 hSc1 hWc2
  refine hK _ _ hSc2 fun _ => ?_
  clear hK K
  refine takeH 15 rfl rfl (some 42) rfl (.int .u64 ((xa ^^^ xb : Nat) : Int)) (by kernel_rfl) (by kernel_rfl) (by kernel_rfl) (fun _ _ _ h => h) (fun w1 _ => runXor64 _ _ _ rfl _ _ rfl rfl la lb) hSc2 ?_
  simp only [Act.put, List.setIfInBounds_toArray, List.set_cons_zero, List.set_cons_succ]
  refine takeH 17 rfl rfl (some 44) rfl (.int .u64 ((xa ^^^ xb ^^^ xc : Nat) : Int)) (by kernel_rfl) (by kernel_rfl) (by kernel_rfl) (fun _ _ _ h => h) (fun w1 _ => runXor64 _ _ _ rfl _ _ rfl rfl (xor_lt64 la lb) lc) hSc2 ?_
  simp only [Act.put, List.setIfInBounds_toArray, List.set_cons_zero, List.set_cons_succ]
  refine takeH 18 rfl rfl (some 8) rfl (.int .u64 ((xa ^^^ xb ^^^ xc : Nat) : Int)) (by kernel_rfl) (by kernel_rfl) (by kernel_rfl) (fun _ _ _ h => h) (fun _ _ => rfl) hSc2 ?_
  simp only [Act.put, List.setIfInBounds_toArray, List.set_cons_zero, List.set_cons_succ]
  refine wpAnyH_done (by kernel_rfl) ?_ _
  rw [← HS.out]
  go_wp2
  go_ret
  exact ⟨rfl, hSc2.1⟩
set_option maxRecDepth 100000 in
theorem three_s0_any (x : Nat) (w : World) (hx : x < 18446744073709551616) : Calls Tryd.prog 36 #[RV, .int .u64 x, .int .i64 6, .bool true] w fun e w' => e = .returned (.int .u64 ((smallS x 1 8 7 : Nat) : Int)) ∧ Below w.heap.size w w' := by
  have HA := Lib.hid fun W => right_any x 1 W hx (by omega) (by omega)
  have HB := Lib.hid fun W => right_any x 8 W hx (by omega) (by omega)
  have la : rotr x 1 < 18446744073709551616 := Nat.lt_of_lt_of_le (rotr_lt 1 hx) (by omega)
  have lb : rotr x 8 < 18446744073709551616 := Nat.lt_of_lt_of_le (rotr_lt 8 hx) (by omega)
  have lc : x / 2 ^ 7 < 18446744073709551616 := Nat.lt_of_lt_of_le (shr_lt 7 hx) (by omega)
  have HS := Lib.hid (show smallS x 1 8 7 = rotr x 1 ^^^ rotr x 8 ^^^ x / 2 ^ 7 from rfl)
  have HSH := Lib.hid (show (x : Int) / 128 = ((x / 2 ^ 7 : Nat) : Int) from by simp)
  generalize smallS x 1 8 7 = r at *
  generalize rotr x 1 = xa at *
  generalize rotr x 8 = xb at *
  generalize x / 2 ^ 7 = xc at *
  have hxl : x < 18446744073709551616 := by omega
  have hsh := HSH.out
  unfold RV at *
  go_enter Tryd.func36, Tryd.ntmps36
  go_upto_region 4 with fail
  have hS : RefS w (w.alloc (.cells #[.int .i64 64, .int .i64 80, .int .u64 28, .int .u64 34, .int .u64 39, .int .u64 14, .int .u64 18, .int .u64 41, .int .u64 1, .int .u64 8, .int .u64 7, .int .u64 19, .int .u64 61, .int .u64 6] 48)) := ⟨(Below.refl _ _).alloc (Nat.le_refl _) _, heap_alloc_last w _⟩
  generalize w.alloc (.cells #[.int .i64 64, .int .i64 80, .int .u64 28, .int .u64 34, .int .u64 39, .int .u64 14, .int .u64 18, .int .u64 41, .int .u64 1, .int .u64 8, .int .u64 7, .int .u64 19, .int .u64 61, .int .u64 6] 48) = W0 at *
  replace hS : RefS w W0.drew := ⟨hS.1.drew, hS.2⟩
  refine wp_region_held (S := fun W => RefS w W) (by kernel_rfl) ?_
  change wpAnyH _ _ _ _ _ _ _ _ W0.drew
  refine takeH 0 rfl rfl (some 27) rfl (.agg #[.int .i64 64, .int .i64 80, .int .u64 28, .int .u64 34, .int .u64 39, .int .u64 14, .int .u64 18, .int .u64 41, .int .u64 1, .int .u64 8, .int .u64 7, .int .u64 19, .int .u64 61, .int .u64 6]) (by kernel_rfl) (by kernel_rfl) (by kernel_rfl) (fun _ _ _ h => h) (fun w1 h1 => runFormR _ rfl rfl h1.2) hS ?_
  simp only [Act.put, List.setIfInBounds_toArray, List.set_cons_zero, List.set_cons_succ]
  refine takeH 1 rfl rfl (some 28) rfl (.int .u64 (x : Int)) (by kernel_rfl) (by kernel_rfl) (by kernel_rfl) (fun _ _ _ h => h) (fun _ _ => rfl) hS ?_
  simp only [Act.put, List.setIfInBounds_toArray, List.set_cons_zero, List.set_cons_succ]
  refine takeH 2 rfl rfl (some 29) rfl (.int .i64 6) (by kernel_rfl) (by kernel_rfl) (by kernel_rfl) (fun _ _ _ h => h) (fun _ _ => rfl) hS ?_
  simp only [Act.put, List.setIfInBounds_toArray, List.set_cons_zero, List.set_cons_succ]
  refine takeH 3 rfl rfl (some 30) rfl (.pointer (some ⟨w.heap.size, 2, none⟩)) (by kernel_rfl) (by kernel_rfl) (by kernel_rfl) (fun _ _ _ h => h) (fun _ _ => by kernel_rfl) hS ?_
  simp only [Act.put, List.setIfInBounds_toArray, List.set_cons_zero, List.set_cons_succ]
  refine takeH 4 rfl rfl (some 31) rfl (.pointer (some ⟨w.heap.size, 8, none⟩)) (by kernel_rfl) (by kernel_rfl) (by kernel_rfl) (fun _ _ _ h => h) (fun w1 _ => runAt _ _ _ rfl _ _ _ rfl rfl (atTwelve w1 _ 2 6 (by omega))) hS ?_
  simp only [Act.put, List.setIfInBounds_toArray, List.set_cons_zero, List.set_cons_succ]
  refine takeH 5 rfl rfl (some 32) rfl (.int .u64 1) (by kernel_rfl) (by kernel_rfl) (by kernel_rfl) (fun _ _ _ h => h) (fun w1 h1 => runLoad _ _ rfl _ _ rfl (ldWord w1 _ _ (by rw [cell_of_row _ _ _ _ _ _ h1.2]; rfl))) hS ?_
  simp only [Act.put, List.setIfInBounds_toArray, List.set_cons_zero, List.set_cons_succ]
  refine takeH 7 rfl rfl (some 34) rfl (.agg #[.int .i64 64, .int .i64 80, .int .u64 28, .int .u64 34, .int .u64 39, .int .u64 14, .int .u64 18, .int .u64 41, .int .u64 1, .int .u64 8, .int .u64 7, .int .u64 19, .int .u64 61, .int .u64 6]) (by kernel_rfl) (by kernel_rfl) (by kernel_rfl) (fun _ _ _ h => h) (fun w1 h1 => runFormR _ rfl rfl h1.2) hS ?_
  simp only [Act.put, List.setIfInBounds_toArray, List.set_cons_zero, List.set_cons_succ]
  refine takeH 8 rfl rfl (some 35) rfl (.int .u64 (x : Int)) (by kernel_rfl) (by kernel_rfl) (by kernel_rfl) (fun _ _ _ h => h) (fun _ _ => rfl) hS ?_
  simp only [Act.put, List.setIfInBounds_toArray, List.set_cons_zero, List.set_cons_succ]
  refine takeH 9 rfl rfl (some 36) rfl (.int .i64 6) (by kernel_rfl) (by kernel_rfl) (by kernel_rfl) (fun _ _ _ h => h) (fun _ _ => rfl) hS ?_
  simp only [Act.put, List.setIfInBounds_toArray, List.set_cons_zero, List.set_cons_succ]
  refine takeH 10 rfl rfl (some 37) rfl (.int .i64 7) (by kernel_rfl) (by kernel_rfl) (by kernel_rfl) (fun _ _ _ h => h) (fun _ _ => rfl) hS ?_
  simp only [Act.put, List.setIfInBounds_toArray, List.set_cons_zero, List.set_cons_succ]
  refine takeH 11 rfl rfl (some 38) rfl (.pointer (some ⟨w.heap.size, 2, none⟩)) (by kernel_rfl) (by kernel_rfl) (by kernel_rfl) (fun _ _ _ h => h) (fun _ _ => by kernel_rfl) hS ?_
  simp only [Act.put, List.setIfInBounds_toArray, List.set_cons_zero, List.set_cons_succ]
  refine takeH 12 rfl rfl (some 39) rfl (.pointer (some ⟨w.heap.size, 9, none⟩)) (by kernel_rfl) (by kernel_rfl) (by kernel_rfl) (fun _ _ _ h => h) (fun w1 _ => runAt _ _ _ rfl _ _ _ rfl rfl (atTwelve w1 _ 2 7 (by omega))) hS ?_
  simp only [Act.put, List.setIfInBounds_toArray, List.set_cons_zero, List.set_cons_succ]
  refine takeH 13 rfl rfl (some 40) rfl (.int .u64 8) (by kernel_rfl) (by kernel_rfl) (by kernel_rfl) (fun _ _ _ h => h) (fun w1 h1 => runLoad _ _ rfl _ _ rfl (ldWord w1 _ _ (by rw [cell_of_row _ _ _ _ _ _ h1.2]; rfl))) hS ?_
  simp only [Act.put, List.setIfInBounds_toArray, List.set_cons_zero, List.set_cons_succ]
  refine takeH 16 rfl rfl (some 43) rfl (.int .u64 (xc : Int)) (by kernel_rfl) (by kernel_rfl) (by kernel_rfl) (fun _ _ _ h => h) (fun _ _ => rfl) hS ?_
  simp only [Act.put, List.setIfInBounds_toArray, List.set_cons_zero, List.set_cons_succ]
  refine oneH 6 rfl rfl (by kernel_rfl) fun K hK => ?_
  refine wpH_call (some 33) rfl 55 #[.agg #[.int .i64 64, .int .i64 80, .int .u64 28, .int .u64 34, .int .u64 39, .int .u64 14, .int .u64 18, .int .u64 41, .int .u64 1, .int .u64 8, .int .u64 7, .int .u64 19, .int .u64 61, .int .u64 6], .int .u64 (x : Int), .int .u64 1] (by kernel_rfl) _ _ (HA.out _) fun Wc1 hWc1 => ?_
  simp only [Act.put, List.setIfInBounds_toArray, List.set_cons_zero, List.set_cons_succ]
  have hSc1 := RefS.keep W0.drew Wc1 hS hWc1
  refine hK _ _ hSc1 fun _ => ?_
  clear hK K
  refine oneH 14 rfl rfl (by kernel_rfl) fun K hK => ?_
  refine wpH_call (some 41) rfl 55 #[.agg #[.int .i64 64, .int .i64 80, .int .u64 28, .int .u64 34, .int .u64 39, .int .u64 14, .int .u64 18, .int .u64 41, .int .u64 1, .int .u64 8, .int .u64 7, .int .u64 19, .int .u64 61, .int .u64 6], .int .u64 (x : Int), .int .u64 8] (by kernel_rfl) _ _ (HB.out _) fun Wc2 hWc2 => ?_
  simp only [Act.put, List.setIfInBounds_toArray, List.set_cons_zero, List.set_cons_succ]
  have hSc2 := RefS.keep Wc1 Wc2 hSc1 hWc2
  refine hK _ _ hSc2 fun _ => ?_
  clear hK K
  refine takeH 15 rfl rfl (some 42) rfl (.int .u64 ((xa ^^^ xb : Nat) : Int)) (by kernel_rfl) (by kernel_rfl) (by kernel_rfl) (fun _ _ _ h => h) (fun w1 _ => runXor64 _ _ _ rfl _ _ rfl rfl la lb) hSc2 ?_
  simp only [Act.put, List.setIfInBounds_toArray, List.set_cons_zero, List.set_cons_succ]
  refine takeH 17 rfl rfl (some 44) rfl (.int .u64 ((xa ^^^ xb ^^^ xc : Nat) : Int)) (by kernel_rfl) (by kernel_rfl) (by kernel_rfl) (fun _ _ _ h => h) (fun w1 _ => runXor64 _ _ _ rfl _ _ rfl rfl (xor_lt64 la lb) lc) hSc2 ?_
  simp only [Act.put, List.setIfInBounds_toArray, List.set_cons_zero, List.set_cons_succ]
  refine takeH 18 rfl rfl (some 8) rfl (.int .u64 ((xa ^^^ xb ^^^ xc : Nat) : Int)) (by kernel_rfl) (by kernel_rfl) (by kernel_rfl) (fun _ _ _ h => h) (fun _ _ => rfl) hSc2 ?_
  simp only [Act.put, List.setIfInBounds_toArray, List.set_cons_zero, List.set_cons_succ]
  refine wpAnyH_done (by kernel_rfl) ?_ _
  rw [← HS.out]
  go_wp2
  go_ret
  exact ⟨rfl, hSc2.1⟩
set_option maxRecDepth 100000 in
theorem three_s1_any (x : Nat) (w : World) (hx : x < 18446744073709551616) : Calls Tryd.prog 36 #[RV, .int .u64 x, .int .i64 9, .bool true] w fun e w' => e = .returned (.int .u64 ((smallS x 19 61 6 : Nat) : Int)) ∧ Below w.heap.size w w' := by
  have HA := Lib.hid fun W => right_any x 19 W hx (by omega) (by omega)
  have HB := Lib.hid fun W => right_any x 61 W hx (by omega) (by omega)
  have la : rotr x 19 < 18446744073709551616 := Nat.lt_of_lt_of_le (rotr_lt 19 hx) (by omega)
  have lb : rotr x 61 < 18446744073709551616 := Nat.lt_of_lt_of_le (rotr_lt 61 hx) (by omega)
  have lc : x / 2 ^ 6 < 18446744073709551616 := Nat.lt_of_lt_of_le (shr_lt 6 hx) (by omega)
  have HS := Lib.hid (show smallS x 19 61 6 = rotr x 19 ^^^ rotr x 61 ^^^ x / 2 ^ 6 from rfl)
  have HSH := Lib.hid (show (x : Int) / 64 = ((x / 2 ^ 6 : Nat) : Int) from by simp)
  generalize smallS x 19 61 6 = r at *
  generalize rotr x 19 = xa at *
  generalize rotr x 61 = xb at *
  generalize x / 2 ^ 6 = xc at *
  have hxl : x < 18446744073709551616 := by omega
  have hsh := HSH.out
  unfold RV at *
  go_enter Tryd.func36, Tryd.ntmps36
  go_upto_region 4 with fail
  have hS : RefS w (w.alloc (.cells #[.int .i64 64, .int .i64 80, .int .u64 28, .int .u64 34, .int .u64 39, .int .u64 14, .int .u64 18, .int .u64 41, .int .u64 1, .int .u64 8, .int .u64 7, .int .u64 19, .int .u64 61, .int .u64 6] 48)) := ⟨(Below.refl _ _).alloc (Nat.le_refl _) _, heap_alloc_last w _⟩
  generalize w.alloc (.cells #[.int .i64 64, .int .i64 80, .int .u64 28, .int .u64 34, .int .u64 39, .int .u64 14, .int .u64 18, .int .u64 41, .int .u64 1, .int .u64 8, .int .u64 7, .int .u64 19, .int .u64 61, .int .u64 6] 48) = W0 at *
  replace hS : RefS w W0.drew := ⟨hS.1.drew, hS.2⟩
  refine wp_region_held (S := fun W => RefS w W) (by kernel_rfl) ?_
  change wpAnyH _ _ _ _ _ _ _ _ W0.drew
  refine takeH 0 rfl rfl (some 27) rfl (.agg #[.int .i64 64, .int .i64 80, .int .u64 28, .int .u64 34, .int .u64 39, .int .u64 14, .int .u64 18, .int .u64 41, .int .u64 1, .int .u64 8, .int .u64 7, .int .u64 19, .int .u64 61, .int .u64 6]) (by kernel_rfl) (by kernel_rfl) (by kernel_rfl) (fun _ _ _ h => h) (fun w1 h1 => runFormR _ rfl rfl h1.2) hS ?_
  simp only [Act.put, List.setIfInBounds_toArray, List.set_cons_zero, List.set_cons_succ]
  refine takeH 1 rfl rfl (some 28) rfl (.int .u64 (x : Int)) (by kernel_rfl) (by kernel_rfl) (by kernel_rfl) (fun _ _ _ h => h) (fun _ _ => rfl) hS ?_
  simp only [Act.put, List.setIfInBounds_toArray, List.set_cons_zero, List.set_cons_succ]
  refine takeH 2 rfl rfl (some 29) rfl (.int .i64 9) (by kernel_rfl) (by kernel_rfl) (by kernel_rfl) (fun _ _ _ h => h) (fun _ _ => rfl) hS ?_
  simp only [Act.put, List.setIfInBounds_toArray, List.set_cons_zero, List.set_cons_succ]
  refine takeH 3 rfl rfl (some 30) rfl (.pointer (some ⟨w.heap.size, 2, none⟩)) (by kernel_rfl) (by kernel_rfl) (by kernel_rfl) (fun _ _ _ h => h) (fun _ _ => by kernel_rfl) hS ?_
  simp only [Act.put, List.setIfInBounds_toArray, List.set_cons_zero, List.set_cons_succ]
  refine takeH 4 rfl rfl (some 31) rfl (.pointer (some ⟨w.heap.size, 11, none⟩)) (by kernel_rfl) (by kernel_rfl) (by kernel_rfl) (fun _ _ _ h => h) (fun w1 _ => runAt _ _ _ rfl _ _ _ rfl rfl (atTwelve w1 _ 2 9 (by omega))) hS ?_
  simp only [Act.put, List.setIfInBounds_toArray, List.set_cons_zero, List.set_cons_succ]
  refine takeH 5 rfl rfl (some 32) rfl (.int .u64 19) (by kernel_rfl) (by kernel_rfl) (by kernel_rfl) (fun _ _ _ h => h) (fun w1 h1 => runLoad _ _ rfl _ _ rfl (ldWord w1 _ _ (by rw [cell_of_row _ _ _ _ _ _ h1.2]; rfl))) hS ?_
  simp only [Act.put, List.setIfInBounds_toArray, List.set_cons_zero, List.set_cons_succ]
  refine takeH 7 rfl rfl (some 34) rfl (.agg #[.int .i64 64, .int .i64 80, .int .u64 28, .int .u64 34, .int .u64 39, .int .u64 14, .int .u64 18, .int .u64 41, .int .u64 1, .int .u64 8, .int .u64 7, .int .u64 19, .int .u64 61, .int .u64 6]) (by kernel_rfl) (by kernel_rfl) (by kernel_rfl) (fun _ _ _ h => h) (fun w1 h1 => runFormR _ rfl rfl h1.2) hS ?_
  simp only [Act.put, List.setIfInBounds_toArray, List.set_cons_zero, List.set_cons_succ]
  refine takeH 8 rfl rfl (some 35) rfl (.int .u64 (x : Int)) (by kernel_rfl) (by kernel_rfl) (by kernel_rfl) (fun _ _ _ h => h) (fun _ _ => rfl) hS ?_
  simp only [Act.put, List.setIfInBounds_toArray, List.set_cons_zero, List.set_cons_succ]
  refine takeH 9 rfl rfl (some 36) rfl (.int .i64 9) (by kernel_rfl) (by kernel_rfl) (by kernel_rfl) (fun _ _ _ h => h) (fun _ _ => rfl) hS ?_
  simp only [Act.put, List.setIfInBounds_toArray, List.set_cons_zero, List.set_cons_succ]
  refine takeH 10 rfl rfl (some 37) rfl (.int .i64 10) (by kernel_rfl) (by kernel_rfl) (by kernel_rfl) (fun _ _ _ h => h) (fun _ _ => rfl) hS ?_
  simp only [Act.put, List.setIfInBounds_toArray, List.set_cons_zero, List.set_cons_succ]
  refine takeH 11 rfl rfl (some 38) rfl (.pointer (some ⟨w.heap.size, 2, none⟩)) (by kernel_rfl) (by kernel_rfl) (by kernel_rfl) (fun _ _ _ h => h) (fun _ _ => by kernel_rfl) hS ?_
  simp only [Act.put, List.setIfInBounds_toArray, List.set_cons_zero, List.set_cons_succ]
  refine takeH 12 rfl rfl (some 39) rfl (.pointer (some ⟨w.heap.size, 12, none⟩)) (by kernel_rfl) (by kernel_rfl) (by kernel_rfl) (fun _ _ _ h => h) (fun w1 _ => runAt _ _ _ rfl _ _ _ rfl rfl (atTwelve w1 _ 2 10 (by omega))) hS ?_
  simp only [Act.put, List.setIfInBounds_toArray, List.set_cons_zero, List.set_cons_succ]
  refine takeH 13 rfl rfl (some 40) rfl (.int .u64 61) (by kernel_rfl) (by kernel_rfl) (by kernel_rfl) (fun _ _ _ h => h) (fun w1 h1 => runLoad _ _ rfl _ _ rfl (ldWord w1 _ _ (by rw [cell_of_row _ _ _ _ _ _ h1.2]; rfl))) hS ?_
  simp only [Act.put, List.setIfInBounds_toArray, List.set_cons_zero, List.set_cons_succ]
  refine takeH 16 rfl rfl (some 43) rfl (.int .u64 (xc : Int)) (by kernel_rfl) (by kernel_rfl) (by kernel_rfl) (fun _ _ _ h => h) (fun _ _ => rfl) hS ?_
  simp only [Act.put, List.setIfInBounds_toArray, List.set_cons_zero, List.set_cons_succ]
  refine oneH 6 rfl rfl (by kernel_rfl) fun K hK => ?_
  refine wpH_call (some 33) rfl 55 #[.agg #[.int .i64 64, .int .i64 80, .int .u64 28, .int .u64 34, .int .u64 39, .int .u64 14, .int .u64 18, .int .u64 41, .int .u64 1, .int .u64 8, .int .u64 7, .int .u64 19, .int .u64 61, .int .u64 6], .int .u64 (x : Int), .int .u64 19] (by kernel_rfl) _ _ (HA.out _) fun Wc1 hWc1 => ?_
  simp only [Act.put, List.setIfInBounds_toArray, List.set_cons_zero, List.set_cons_succ]
  have hSc1 := RefS.keep W0.drew Wc1 hS hWc1
  refine hK _ _ hSc1 fun _ => ?_
  clear hK K
  refine oneH 14 rfl rfl (by kernel_rfl) fun K hK => ?_
  refine wpH_call (some 41) rfl 55 #[.agg #[.int .i64 64, .int .i64 80, .int .u64 28, .int .u64 34, .int .u64 39, .int .u64 14, .int .u64 18, .int .u64 41, .int .u64 1, .int .u64 8, .int .u64 7, .int .u64 19, .int .u64 61, .int .u64 6], .int .u64 (x : Int), .int .u64 61] (by kernel_rfl) _ _ (HB.out _) fun Wc2 hWc2 => ?_
  simp only [Act.put, List.setIfInBounds_toArray, List.set_cons_zero, List.set_cons_succ]
  have hSc2 := RefS.keep Wc1 Wc2 hSc1 hWc2
  refine hK _ _ hSc2 fun _ => ?_
  clear hK K
  refine takeH 15 rfl rfl (some 42) rfl (.int .u64 ((xa ^^^ xb : Nat) : Int)) (by kernel_rfl) (by kernel_rfl) (by kernel_rfl) (fun _ _ _ h => h) (fun w1 _ => runXor64 _ _ _ rfl _ _ rfl rfl la lb) hSc2 ?_
  simp only [Act.put, List.setIfInBounds_toArray, List.set_cons_zero, List.set_cons_succ]
  refine takeH 17 rfl rfl (some 44) rfl (.int .u64 ((xa ^^^ xb ^^^ xc : Nat) : Int)) (by kernel_rfl) (by kernel_rfl) (by kernel_rfl) (fun _ _ _ h => h) (fun w1 _ => runXor64 _ _ _ rfl _ _ rfl rfl (xor_lt64 la lb) lc) hSc2 ?_
  simp only [Act.put, List.setIfInBounds_toArray, List.set_cons_zero, List.set_cons_succ]
  refine takeH 18 rfl rfl (some 8) rfl (.int .u64 ((xa ^^^ xb ^^^ xc : Nat) : Int)) (by kernel_rfl) (by kernel_rfl) (by kernel_rfl) (fun _ _ _ h => h) (fun _ _ => rfl) hSc2 ?_
  simp only [Act.put, List.setIfInBounds_toArray, List.set_cons_zero, List.set_cons_succ]
  refine wpAnyH_done (by kernel_rfl) ?_ _
  rw [← HS.out]
  go_wp2
  go_ret
  exact ⟨rfl, hSc2.1⟩
end Go.Proofs.YtpgadpnaekhiaaaDoor.Sha64
