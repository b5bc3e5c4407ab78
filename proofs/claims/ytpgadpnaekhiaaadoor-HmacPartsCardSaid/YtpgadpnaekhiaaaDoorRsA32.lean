/-
  The reference of SHA-2 with words of 32 bits: the walks of keep, right, three.
  Conditions: words that fit; turns of less than a word.
-/
import Derived.Test.YtpgadpnaekhiaaaDoorShaE32
namespace Go.Proofs.YtpgadpnaekhiaaaDoor.Sha32
open Go.ChangeShapes Go.WideShapes Go.ChangeAt Go.RowKit Go.Deep Go.Proofs.YtpgadpnaekhiaaaDoor.Bw
/-- The reference's form. -/
def RV : Value := .agg #[.int .i64 32, .int .i64 64, .int .u64 2, .int .u64 13, .int .u64 22, .int .u64 6, .int .u64 11, .int .u64 25, .int .u64 7, .int .u64 18, .int .u64 3, .int .u64 17, .int .u64 19, .int .u64 10]
set_option maxRecDepth 100000 in
theorem keep_any (x : Nat) (w : World) (_hx : x < 18446744073709551616) : Calls Tryd.prog 35 #[RV, .int .u64 x] w fun e w' => e = .returned (.int .u64 ((x % 4294967296 : Nat) : Int)) ∧ Below w.heap.size w w' := by
  have hi : (x : Int) % 4294967296 = ((x % 4294967296 : Nat) : Int) := by simp
  have ht : (x : Int).tmod 4294967296 = (x : Int) % 4294967296 := Int.tmod_eq_emod_of_nonneg (Int.natCast_nonneg _)
  generalize x % 4294967296 = y at *
  unfold RV
  go_enter Tryd.func35, Tryd.ntmps35
  go_wp2
  go_ret
  exact ⟨by first | rfl | (simp; omega), by ((repeat' (with_reducible first | exact Below.refl _ _ | assumption | refine Below.drew ?_ | refine below_drewN ?_ _ | refine Below.setCell ?_ ?_ _ | refine Below.alloc ?_ ?_ _ | refine Below.ext ?_ ?_ _ | refine Below.trans ?_ (Below.mono ‹_› ?_))) <;> first | omega | (simp; done) | (simp; omega))⟩
theorem right_nat (x n : Nat) (hx : x < 4294967296) (_hn : 0 < n) (_hn2 : n < 32) : (x / 2 ^ n ||| x * 2 ^ (32 - n) % 18446744073709551616) % 4294967296 = rotr x n := by
  have e : 4294967296 = 2 ^ 32 := by decide
  rw [rotr, e, Nat.or_mod_two_pow]
  congr 1
  · exact Nat.mod_eq_of_lt (by rw [← e]; exact shr_lt n hx)
  · first
      | (rw [show (18446744073709551616 : Nat) = 2 ^ 64 by decide]; exact Nat.mod_mod_of_dvd _ (Nat.pow_dvd_pow 2 (by omega)))
      | exact Nat.mod_mod _ _
set_option maxRecDepth 100000 in
theorem right_any (x n : Nat) (w : World) (hx : x < 4294967296) (hn : 0 < n) (hn2 : n < 32) : Calls Tryd.prog 55 #[RV, .int .u64 x, .int .u64 n] w fun e w' => e = .returned (.int .u64 ((rotr x n : Nat) : Int)) ∧ Below w.heap.size w w' := by
  have l1 : x / 2 ^ n < 18446744073709551616 := Nat.lt_of_lt_of_le (shr_lt n hx) (by omega)
  have l2 : x * 2 ^ (32 - n) % 18446744073709551616 < 18446744073709551616 := Nat.mod_lt _ (by omega)
  have hyr := right_nat x n hx hn hn2
  have hor := or64 _ _ l1 l2
  have hyl := or_lt64 l1 l2
  rw [show ((x / 2 ^ n : Nat) : Int) = (x : Int) / 2 ^ n by simp, show ((x * 2 ^ (32 - n) % 18446744073709551616 : Nat) : Int) = (x : Int) * 2 ^ (32 - n) % 18446744073709551616 by simp] at hor
  generalize x / 2 ^ n ||| x * 2 ^ (32 - n) % 18446744073709551616 = y at *
  have HK := Lib.hid fun W => keep_any y W hyl
  rw [hyr] at HK
  clear l1 l2 hyr
  have hni : (n : Int) < 32 := by omega
  generalize rotr x n = r at *
  obtain ⟨m, hm⟩ : ∃ m, m = 32 - n := ⟨_, rfl⟩
  rw [← hm, ← show IntKind.u64.wrap ((x : Int) * 2 ^ m) = (x : Int) * 2 ^ m % 18446744073709551616 by simp [IntKind.wrap, IntKind.bits, IntKind.signed]] at hor
  have hsub : (32 : Int) - (n : Int) = (m : Int) := by omega
  have hm64 : (m : Int) < 64 := by omega
  have hm0 : m < 18446744073709551616 := by omega
  clear hm
  unfold RV at *
  go_enter Tryd.func55, Tryd.ntmps55
  go_wp2_with fail
  refine Calls.ext (HK.out _) fun u => ?_
  go_wp2
  go_ret
  exact ⟨rfl, by ((repeat' (with_reducible first | exact Below.refl _ _ | assumption | refine Below.drew ?_ | refine below_drewN ?_ _ | refine Below.setCell ?_ ?_ _ | refine Below.alloc ?_ ?_ _ | refine Below.ext ?_ ?_ _ | refine Below.trans ?_ (Below.mono ‹_› ?_))) <;> first | omega | (simp; done) | (simp; omega))⟩
/-- What the reference's regions keep. -/
def RefS (w W : World) : Prop := Below w.heap.size w W ∧ W.heap[w.heap.size]? = some (.cells #[.int .i64 32, .int .i64 64, .int .u64 2, .int .u64 13, .int .u64 22, .int .u64 6, .int .u64 11, .int .u64 25, .int .u64 7, .int .u64 18, .int .u64 3, .int .u64 17, .int .u64 19, .int .u64 10] 48 (0, 0))
theorem RefS.keep {w : World} (W W1 : World) (h : RefS w W) (hb : Below W.heap.size W W1) : RefS w W1 :=
  ⟨h.1.trans (hb.mono h.1.size), below_heap hb (lt_of_heap h.2) h.2⟩
theorem runFormR {o : Oper} {a : Act} {W : World} {b : Nat} (x : Operand) (ho : o.op = .load 48 x) (hx : a.eval x = .pointer (some ⟨b, 0, none⟩)) (h : W.heap[b]? = some (.cells #[.int .i64 32, .int .i64 64, .int .u64 2, .int .u64 13, .int .u64 22, .int .u64 6, .int .u64 11, .int .u64 25, .int .u64 7, .int .u64 18, .int .u64 3, .int .u64 17, .int .u64 19, .int .u64 10] 48 (0, 0))) : (execOp a.eval o).run Tryd.prog W = .ok (.value (.agg #[.int .i64 32, .int .i64 64, .int .u64 2, .int .u64 13, .int .u64 22, .int .u64 6, .int .u64 11, .int .u64 25, .int .u64 7, .int .u64 18, .int .u64 3, .int .u64 17, .int .u64 19, .int .u64 10])) W :=
  run_load_row 48 x ho b hx _ _ _ h _ Tryd.underlying48 rfl (by kernel_rfl)
theorem atTwelve (W : World) (b o i : Nat) (h : i < 12) : (Instr.indexAt 46 (.pointer (some ⟨b, o, none⟩)) (.int .i64 (i : Int))).run Tryd.prog W = .ok (.pointer (some ⟨b, o + i, none⟩)) W := by
  have hi : (i : Int) < 12 := by omega
  go_simp
theorem runXor64 {o : Oper} {a : Act} {w : World} (x y : Operand) (tp : TypeId) (ho : o.op = .binOp .xor 45 x y tp) (m n : Nat) (hx : a.eval x = .int .u64 (m : Int)) (hy : a.eval y = .int .u64 (n : Int)) (hm : m < 18446744073709551616) (hn : n < 18446744073709551616) :
    (execOp a.eval o).run Tryd.prog w = .ok (.value (.int .u64 ((m ^^^ n : Nat) : Int))) w := by
  unfold execOp
  simp only [ho, hx, hy]
  rw [← xor64 m n hm hn]
  go_simp
set_option maxRecDepth 100000 in
theorem three_b0_any (x : Nat) (w : World) (hx : x < 4294967296) : Calls Tryd.prog 36 #[RV, .int .u64 x, .int .i64 0, .bool false] w fun e w' => e = .returned (.int .u64 ((bigS x 2 13 22 : Nat) : Int)) ∧ Below w.heap.size w w' := by
  have HA := Lib.hid fun W => right_any x 2 W hx (by omega) (by omega)
  have HB := Lib.hid fun W => right_any x 13 W hx (by omega) (by omega)
  have HC := Lib.hid fun W => right_any x 22 W hx (by omega) (by omega)
  have la : rotr x 2 < 18446744073709551616 := Nat.lt_of_lt_of_le (rotr_lt 2 hx) (by omega)
  have lb : rotr x 13 < 18446744073709551616 := Nat.lt_of_lt_of_le (rotr_lt 13 hx) (by omega)
  have lc : rotr x 22 < 18446744073709551616 := Nat.lt_of_lt_of_le (rotr_lt 22 hx) (by omega)
  have HS := Lib.hid (show bigS x 2 13 22 = rotr x 2 ^^^ rotr x 13 ^^^ rotr x 22 from rfl)
  have HSH := Lib.hid (show (x : Int) / 4194304 = ((x / 2 ^ 22 : Nat) : Int) from by simp)
  generalize bigS x 2 13 22 = r at *
  generalize rotr x 2 = xa at *
  generalize rotr x 13 = xb at *
  generalize rotr x 22 = xc at *
  generalize x / 2 ^ 22 = x0 at *
  have hxl : x < 18446744073709551616 := by omega
  have hsh := HSH.out
  unfold RV at *
  go_enter Tryd.func36, Tryd.ntmps36
  go_upto_region 3 with fail
  have hS : RefS w (w.alloc (.cells #[.int .i64 32, .int .i64 64, .int .u64 2, .int .u64 13, .int .u64 22, .int .u64 6, .int .u64 11, .int .u64 25, .int .u64 7, .int .u64 18, .int .u64 3, .int .u64 17, .int .u64 19, .int .u64 10] 48)) := ⟨(Below.refl _ _).alloc (Nat.le_refl _) _, heap_alloc_last w _⟩
  generalize w.alloc (.cells #[.int .i64 32, .int .i64 64, .int .u64 2, .int .u64 13, .int .u64 22, .int .u64 6, .int .u64 11, .int .u64 25, .int .u64 7, .int .u64 18, .int .u64 3, .int .u64 17, .int .u64 19, .int .u64 10] 48) = W0 at *
  replace hS : RefS w W0.drew := ⟨hS.1.drew, hS.2⟩
  refine wp_region_held (S := fun W => RefS w W) (by kernel_rfl) ?_
  change wpAnyH _ _ _ _ _ _ _ _ W0.drew
  refine takeH 0 rfl rfl (some 19) rfl (.agg #[.int .i64 32, .int .i64 64, .int .u64 2, .int .u64 13, .int .u64 22, .int .u64 6, .int .u64 11, .int .u64 25, .int .u64 7, .int .u64 18, .int .u64 3, .int .u64 17, .int .u64 19, .int .u64 10]) (by kernel_rfl) (by kernel_rfl) (by kernel_rfl) (fun _ _ _ h => h) (fun w1 h1 => runFormR _ rfl rfl h1.2) hS ?_
  simp only [Act.put, List.setIfInBounds_toArray, List.set_cons_zero, List.set_cons_succ]
  refine takeH 1 rfl rfl (some 20) rfl (.int .u64 (x : Int)) (by kernel_rfl) (by kernel_rfl) (by kernel_rfl) (fun _ _ _ h => h) (fun _ _ => rfl) hS ?_
  simp only [Act.put, List.setIfInBounds_toArray, List.set_cons_zero, List.set_cons_succ]
  refine takeH 2 rfl rfl (some 21) rfl (.int .i64 0) (by kernel_rfl) (by kernel_rfl) (by kernel_rfl) (fun _ _ _ h => h) (fun _ _ => rfl) hS ?_
  simp only [Act.put, List.setIfInBounds_toArray, List.set_cons_zero, List.set_cons_succ]
  refine takeH 3 rfl rfl (some 22) rfl (.int .i64 2) (by kernel_rfl) (by kernel_rfl) (by kernel_rfl) (fun _ _ _ h => h) (fun _ _ => rfl) hS ?_
  simp only [Act.put, List.setIfInBounds_toArray, List.set_cons_zero, List.set_cons_succ]
  refine takeH 4 rfl rfl (some 23) rfl (.pointer (some ⟨w.heap.size, 2, none⟩)) (by kernel_rfl) (by kernel_rfl) (by kernel_rfl) (fun _ _ _ h => h) (fun _ _ => by kernel_rfl) hS ?_
  simp only [Act.put, List.setIfInBounds_toArray, List.set_cons_zero, List.set_cons_succ]
  refine takeH 5 rfl rfl (some 24) rfl (.pointer (some ⟨w.heap.size, 4, none⟩)) (by kernel_rfl) (by kernel_rfl) (by kernel_rfl) (fun _ _ _ h => h) (fun w1 _ => runAt _ _ _ rfl _ _ _ rfl rfl (atTwelve w1 _ 2 2 (by omega))) hS ?_
  simp only [Act.put, List.setIfInBounds_toArray, List.set_cons_zero, List.set_cons_succ]
  refine takeH 6 rfl rfl (some 25) rfl (.int .u64 22) (by kernel_rfl) (by kernel_rfl) (by kernel_rfl) (fun _ _ _ h => h) (fun w1 h1 => runLoad _ _ rfl _ _ rfl (ldWord w1 _ _ (by rw [cell_of_row _ _ _ _ _ _ h1.2]; rfl))) hS ?_
  simp only [Act.put, List.setIfInBounds_toArray, List.set_cons_zero, List.set_cons_succ]
  refine oneH 7 rfl rfl (by kernel_rfl) fun K hK => ?_
  refine wpH_call (some 26) rfl 55 #[.agg #[.int .i64 32, .int .i64 64, .int .u64 2, .int .u64 13, .int .u64 22, .int .u64 6, .int .u64 11, .int .u64 25, .int .u64 7, .int .u64 18, .int .u64 3, .int .u64 17, .int .u64 19, .int .u64 10], .int .u64 (x : Int), .int .u64 22] (by kernel_rfl) _ _ (HC.out _) fun Wc1 hWc1 => ?_
  simp only [Act.put, List.setIfInBounds_toArray, List.set_cons_zero, List.set_cons_succ]
  have hSc1 := RefS.keep W0.drew Wc1 hS hWc1
  refine hK _ _ hSc1 fun _ => ?_
  clear hK K
  refine takeH 8 rfl rfl (some 9) rfl (.int .u64 (xc : Int)) (by kernel_rfl) (by kernel_rfl) (by kernel_rfl) (fun _ _ _ h => h) (fun _ _ => rfl) hSc1 ?_
  simp only [Act.put, List.setIfInBounds_toArray, List.set_cons_zero, List.set_cons_succ]
  refine wpAnyH_done (by kernel_rfl) ?_ _
  clear hS hWc1
  generalize Wc1 = W1 at *
  go_upto_region 4 with fail
  have hS : RefS w W1.drew := ⟨hSc1.1.drew, hSc1.2⟩
  clear hSc1
  refine wp_region_held (S := fun W => RefS w W) (by kernel_rfl) ?_
  change wpAnyH _ _ _ _ _ _ _ _ W1.drew
  refine takeH 0 rfl rfl (some 27) rfl (.agg #[.int .i64 32, .int .i64 64, .int .u64 2, .int .u64 13, .int .u64 22, .int .u64 6, .int .u64 11, .int .u64 25, .int .u64 7, .int .u64 18, .int .u64 3, .int .u64 17, .int .u64 19, .int .u64 10]) (by kernel_rfl) (by kernel_rfl) (by kernel_rfl) (fun _ _ _ h => h) (fun w1 h1 => runFormR _ rfl rfl h1.2) hS ?_
  simp only [Act.put, List.setIfInBounds_toArray, List.set_cons_zero, List.set_cons_succ]
  refine takeH 1 rfl rfl (some 28) rfl (.int .u64 (x : Int)) (by kernel_rfl) (by kernel_rfl) (by kernel_rfl) (fun _ _ _ h => h) (fun _ _ => rfl) hS ?_
  simp only [Act.put, List.setIfInBounds_toArray, List.set_cons_zero, List.set_cons_succ]
  refine takeH 2 rfl rfl (some 29) rfl (.int .i64 0) (by kernel_rfl) (by kernel_rfl) (by kernel_rfl) (fun _ _ _ h => h) (fun _ _ => rfl) hS ?_
  simp only [Act.put, List.setIfInBounds_toArray, List.set_cons_zero, List.set_cons_succ]
  refine takeH 3 rfl rfl (some 30) rfl (.pointer (some ⟨w.heap.size, 2, none⟩)) (by kernel_rfl) (by kernel_rfl) (by kernel_rfl) (fun _ _ _ h => h) (fun _ _ => by kernel_rfl) hS ?_
  simp only [Act.put, List.setIfInBounds_toArray, List.set_cons_zero, List.set_cons_succ]
  refine takeH 4 rfl rfl (some 31) rfl (.pointer (some ⟨w.heap.size, 2, none⟩)) (by kernel_rfl) (by kernel_rfl) (by kernel_rfl) (fun _ _ _ h => h) (fun w1 _ => runAt _ _ _ rfl _ _ _ rfl rfl (atTwelve w1 _ 2 0 (by omega))) hS ?_
  simp only [Act.put, List.setIfInBounds_toArray, List.set_cons_zero, List.set_cons_succ]
  refine takeH 5 rfl rfl (some 32) rfl (.int .u64 2) (by kernel_rfl) (by kernel_rfl) (by kernel_rfl) (fun _ _ _ h => h) (fun w1 h1 => runLoad _ _ rfl _ _ rfl (ldWord w1 _ _ (by rw [cell_of_row _ _ _ _ _ _ h1.2]; rfl))) hS ?_
  simp only [Act.put, List.setIfInBounds_toArray, List.set_cons_zero, List.set_cons_succ]
  refine takeH 7 rfl rfl (some 34) rfl (.agg #[.int .i64 32, .int .i64 64, .int .u64 2, .int .u64 13, .int .u64 22, .int .u64 6, .int .u64 11, .int .u64 25, .int .u64 7, .int .u64 18, .int .u64 3, .int .u64 17, .int .u64 19, .int .u64 10]) (by kernel_rfl) (by kernel_rfl) (by kernel_rfl) (fun _ _ _ h => h) (fun w1 h1 => runFormR _ rfl rfl h1.2) hS ?_
  simp only [Act.put, List.setIfInBounds_toArray, List.set_cons_zero, List.set_cons_succ]
  refine takeH 8 rfl rfl (some 35) rfl (.int .u64 (x : Int)) (by kernel_rfl) (by kernel_rfl) (by kernel_rfl) (fun _ _ _ h => h) (fun _ _ => rfl) hS ?_
  simp only [Act.put, List.setIfInBounds_toArray, List.set_cons_zero, List.set_cons_succ]
  refine takeH 9 rfl rfl (some 36) rfl (.int .i64 0) (by kernel_rfl) (by kernel_rfl) (by kernel_rfl) (fun _ _ _ h => h) (fun _ _ => rfl) hS ?_
  simp only [Act.put, List.setIfInBounds_toArray, List.set_cons_zero, List.set_cons_succ]
  refine takeH 10 rfl rfl (some 37) rfl (.int .i64 1) (by kernel_rfl) (by kernel_rfl) (by kernel_rfl) (fun _ _ _ h => h) (fun _ _ => rfl) hS ?_
  simp only [Act.put, List.setIfInBounds_toArray, List.set_cons_zero, List.set_cons_succ]
  refine takeH 11 rfl rfl (some 38) rfl (.pointer (some ⟨w.heap.size, 2, none⟩)) (by kernel_rfl) (by kernel_rfl) (by kernel_rfl) (fun _ _ _ h => h) (fun _ _ => by kernel_rfl) hS ?_
  simp only [Act.put, List.setIfInBounds_toArray, List.set_cons_zero, List.set_cons_succ]
  refine takeH 12 rfl rfl (some 39) rfl (.pointer (some ⟨w.heap.size, 3, none⟩)) (by kernel_rfl) (by kernel_rfl) (by kernel_rfl) (fun _ _ _ h => h) (fun w1 _ => runAt _ _ _ rfl _ _ _ rfl rfl (atTwelve w1 _ 2 1 (by omega))) hS ?_
  simp only [Act.put, List.setIfInBounds_toArray, List.set_cons_zero, List.set_cons_succ]
  refine takeH 13 rfl rfl (some 40) rfl (.int .u64 13) (by kernel_rfl) (by kernel_rfl) (by kernel_rfl) (fun _ _ _ h => h) (fun w1 h1 => runLoad _ _ rfl _ _ rfl (ldWord w1 _ _ (by rw [cell_of_row _ _ _ _ _ _ h1.2]; rfl))) hS ?_
  simp only [Act.put, List.setIfInBounds_toArray, List.set_cons_zero, List.set_cons_succ]
  refine takeH 16 rfl rfl (some 43) rfl (.int .u64 (xc : Int)) (by kernel_rfl) (by kernel_rfl) (by kernel_rfl) (fun _ _ _ h => h) (fun _ _ => rfl) hS ?_
  simp only [Act.put, List.setIfInBounds_toArray, List.set_cons_zero, List.set_cons_succ]
  refine oneH 6 rfl rfl (by kernel_rfl) fun K hK => ?_
  refine wpH_call (some 33) rfl 55 #[.agg #[.int .i64 32, .int .i64 64, .int .u64 2, .int .u64 13, .int .u64 22, .int .u64 6, .int .u64 11, .int .u64 25, .int .u64 7, .int .u64 18, .int .u64 3, .int .u64 17, .int .u64 19, .int .u64 10], .int .u64 (x : Int), .int .u64 2] (by kernel_rfl) _ _ (HA.out _) fun Wc1 hWc1 => ?_
  simp only [Act.put, List.setIfInBounds_toArray, List.set_cons_zero, List.set_cons_succ]
  have hSc1 := RefS.keep W1.drew Wc1 hS hWc1
  refine hK _ _ hSc1 fun _ => ?_
  clear hK K
  refine oneH 14 rfl rfl (by kernel_rfl) fun K hK => ?_
  refine wpH_call (some 41) rfl 55 #[.agg #[.int .i64 32, .int .i64 64, .int .u64 2, .int .u64 13, .int .u64 22, .int .u64 6, .int .u64 11, .int .u64 25, .int .u64 7, .int .u64 18, .int .u64 3, .int .u64 17, .int .u64 19, .int .u64 10], .int .u64 (x : Int), .int .u64 13] (by kernel_rfl) _ _ (HB.out _) fun Wc2 hWc2 => ?_
  simp only [Act.put, List.setIfInBounds_toArray, List.set_cons_zero, List.set_cons_succ]
  have hSc2 := RefS.keep Wc1 Wc2 hSc1 hWc2
  refine hK _ _ hSc2 fun _ => ?_
  clear hK K
  refine takeH 15 rfl rfl (some 42) rfl (.int .u64 ((xa ^^^ xb : Nat) : Int)) (by kernel_rfl) (by kernel_rfl) (by kernel_rfl) (fun _ _ _ h => h) (fun w1 _ => runXor64 _ _ _ rfl _ _ rfl rfl la lb) hSc2 ?_
  simp only [Act.put, List.setIfInBounds_toArray, List.set_cons_zero, List.set_cons_succ]
  refine takeH 17 rfl rfl (some 44) rfl (.int .u64 ((xa ^^^ xb ^^^ xc : Nat) : Int)) (by kernel_rfl) (by kernel_rfl) (by kernel_rfl) (fun _ _ _ h => h) (fun w1 _ => runXor64 _ _ _ rfl _ _ rfl rfl (xor_lt64 la lb) lc) hSc2 ?_
  simp only [Act.put, List.setIfInBounds_toArray, List.set_cons_zero, List.set_cons_succ]
  refine takeH 18 rfl rfl (some 8) rfl (.int .u64 ((xa ^^^ xb ^^^ xc : Nat) : Int)) (by kernel_rfl) (by kernel_rfl) (by kernel_rfl) (fun _ _ _ h => h) (fun _ _ => rfl) hSc2 ?_
  simp only [Act.put, List.setIfInBounds_toArray, List.set_cons_zero, List.set_cons_succ]
  refine wpAnyH_done (by kernel_rfl) ?_ _
  rw [← HS.out]
  go_wp2
  go_ret
  exact ⟨rfl, hSc2.1⟩
set_option maxRecDepth 100000 in
theorem three_b1_any (x : Nat) (w : World) (hx : x < 4294967296) : Calls Tryd.prog 36 #[RV, .int .u64 x, .int .i64 3, .bool false] w fun e w' => e = .returned (.int .u64 ((bigS x 6 11 25 : Nat) : Int)) ∧ Below w.heap.size w w' := by
  have HA := Lib.hid fun W => right_any x 6 W hx (by omega) (by omega)
  have HB := Lib.hid fun W => right_any x 11 W hx (by omega) (by omega)
  have HC := Lib.hid fun W => right_any x 25 W hx (by omega) (by omega)
  have la : rotr x 6 < 18446744073709551616 := Nat.lt_of_lt_of_le (rotr_lt 6 hx) (by omega)
  have lb : rotr x 11 < 18446744073709551616 := Nat.lt_of_lt_of_le (rotr_lt 11 hx) (by omega)
  have lc : rotr x 25 < 18446744073709551616 := Nat.lt_of_lt_of_le (rotr_lt 25 hx) (by omega)
  have HS := Lib.hid (show bigS x 6 11 25 = rotr x 6 ^^^ rotr x 11 ^^^ rotr x 25 from rfl)
  have HSH := Lib.hid (show (x : Int) / 33554432 = ((x / 2 ^ 25 : Nat) : Int) from by simp)
  generalize bigS x 6 11 25 = r at *
  generalize rotr x 6 = xa at *
  generalize rotr x 11 = xb at *
  generalize rotr x 25 = xc at *
  generalize x / 2 ^ 25 = x0 at *
  have hxl : x < 18446744073709551616 := by omega
  have hsh := HSH.out
  unfold RV at *
  go_enter Tryd.func36, Tryd.ntmps36
  go_upto_region 3 with fail
  have hS : RefS w (w.alloc (.cells #[.int .i64 32, .int .i64 64, .int .u64 2, .int .u64 13, .int .u64 22, .int .u64 6, .int .u64 11, .int .u64 25, .int .u64 7, .int .u64 18, .int .u64 3, .int .u64 17, .int .u64 19, .int .u64 10] 48)) := ⟨(Below.refl _ _).alloc (Nat.le_refl _) _, heap_alloc_last w _⟩
  generalize w.alloc (.cells #[.int .i64 32, .int .i64 64, .int .u64 2, .int .u64 13, .int .u64 22, .int .u64 6, .int .u64 11, .int .u64 25, .int .u64 7, .int .u64 18, .int .u64 3, .int .u64 17, .int .u64 19, .int .u64 10] 48) = W0 at *
  replace hS : RefS w W0.drew := ⟨hS.1.drew, hS.2⟩
  refine wp_region_held (S := fun W => RefS w W) (by kernel_rfl) ?_
  change wpAnyH _ _ _ _ _ _ _ _ W0.drew
  refine takeH 0 rfl rfl (some 19) rfl (.agg #[.int .i64 32, .int .i64 64, .int .u64 2, .int .u64 13, .int .u64 22, .int .u64 6, .int .u64 11, .int .u64 25, .int .u64 7, .int .u64 18, .int .u64 3, .int .u64 17, .int .u64 19, .int .u64 10]) (by kernel_rfl) (by kernel_rfl) (by kernel_rfl) (fun _ _ _ h => h) (fun w1 h1 => runFormR _ rfl rfl h1.2) hS ?_
  simp only [Act.put, List.setIfInBounds_toArray, List.set_cons_zero, List.set_cons_succ]
  refine takeH 1 rfl rfl (some 20) rfl (.int .u64 (x : Int)) (by kernel_rfl) (by kernel_rfl) (by kernel_rfl) (fun _ _ _ h => h) (fun _ _ => rfl) hS ?_
  simp only [Act.put, List.setIfInBounds_toArray, List.set_cons_zero, List.set_cons_succ]
  refine takeH 2 rfl rfl (some 21) rfl (.int .i64 3) (by kernel_rfl) (by kernel_rfl) (by kernel_rfl) (fun _ _ _ h => h) (fun _ _ => rfl) hS ?_
  simp only [Act.put, List.setIfInBounds_toArray, List.set_cons_zero, List.set_cons_succ]
  refine takeH 3 rfl rfl (some 22) rfl (.int .i64 5) (by kernel_rfl) (by kernel_rfl) (by kernel_rfl) (fun _ _ _ h => h) (fun _ _ => rfl) hS ?_
  simp only [Act.put, List.setIfInBounds_toArray, List.set_cons_zero, List.set_cons_succ]
  refine takeH 4 rfl rfl (some 23) rfl (.pointer (some ⟨w.heap.size, 2, none⟩)) (by kernel_rfl) (by kernel_rfl) (by kernel_rfl) (fun _ _ _ h => h) (fun _ _ => by kernel_rfl) hS ?_
  simp only [Act.put, List.setIfInBounds_toArray, List.set_cons_zero, List.set_cons_succ]
  refine takeH 5 rfl rfl (some 24) rfl (.pointer (some ⟨w.heap.size, 7, none⟩)) (by kernel_rfl) (by kernel_rfl) (by kernel_rfl) (fun _ _ _ h => h) (fun w1 _ => runAt _ _ _ rfl _ _ _ rfl rfl (atTwelve w1 _ 2 5 (by omega))) hS ?_
  simp only [Act.put, List.setIfInBounds_toArray, List.set_cons_zero, List.set_cons_succ]
  refine takeH 6 rfl rfl (some 25) rfl (.int .u64 25) (by kernel_rfl) (by kernel_rfl) (by kernel_rfl) (fun _ _ _ h => h) (fun w1 h1 => runLoad _ _ rfl _ _ rfl (ldWord w1 _ _ (by rw [cell_of_row _ _ _ _ _ _ h1.2]; rfl))) hS ?_
  simp only [Act.put, List.setIfInBounds_toArray, List.set_cons_zero, List.set_cons_succ]
  refine oneH 7 rfl rfl (by kernel_rfl) fun K hK => ?_
  refine wpH_call (some 26) rfl 55 #[.agg #[.int .i64 32, .int .i64 64, .int .u64 2, .int .u64 13, .int .u64 22, .int .u64 6, .int .u64 11, .int .u64 25, .int .u64 7, .int .u64 18, .int .u64 3, .int .u64 17, .int .u64 19, .int .u64 10], .int .u64 (x : Int), .int .u64 25] (by kernel_rfl) _ _ (HC.out _) fun Wc1 hWc1 => ?_
  simp only [Act.put, List.setIfInBounds_toArray, List.set_cons_zero, List.set_cons_succ]
  have hSc1 := RefS.keep W0.drew Wc1 hS hWc1
  refine hK _ _ hSc1 fun _ => ?_
  clear hK K
  refine takeH 8 rfl rfl (some 9) rfl (.int .u64 (xc : Int)) (by kernel_rfl) (by kernel_rfl) (by kernel_rfl) (fun _ _ _ h => h) (fun _ _ => rfl) hSc1 ?_
  simp only [Act.put, List.setIfInBounds_toArray, List.set_cons_zero, List.set_cons_succ]
  refine wpAnyH_done (by kernel_rfl) ?_ _
  clear hS hWc1
  generalize Wc1 = W1 at *
  go_upto_region 4 with fail
  have hS : RefS w W1.drew := ⟨hSc1.1.drew, hSc1.2⟩
  clear hSc1
  refine wp_region_held (S := fun W => RefS w W) (by kernel_rfl) ?_
  change wpAnyH _ _ _ _ _ _ _ _ W1.drew
  refine takeH 0 rfl rfl (some 27) rfl (.agg #[.int .i64 32, .int .i64 64, .int .u64 2, .int .u64 13, .int .u64 22, .int .u64 6, .int .u64 11, .int .u64 25, .int .u64 7, .int .u64 18, .int .u64 3, .int .u64 17, .int .u64 19, .int .u64 10]) (by kernel_rfl) (by kernel_rfl) (by kernel_rfl) (fun _ _ _ h => h) (fun w1 h1 => runFormR _ rfl rfl h1.2) hS ?_
  simp only [Act.put, List.setIfInBounds_toArray, List.set_cons_zero, List.set_cons_succ]
  refine takeH 1 rfl rfl (some 28) rfl (.int .u64 (x : Int)) (by kernel_rfl) (by kernel_rfl) (by kernel_rfl) (fun _ _ _ h => h) (fun _ _ => rfl) hS ?_
  simp only [Act.put, List.setIfInBounds_toArray, List.set_cons_zero, List.set_cons_succ]
  refine takeH 2 rfl rfl (some 29) rfl (.int .i64 3) (by kernel_rfl) (by kernel_rfl) (by kernel_rfl) (fun _ _ _ h => h) (fun _ _ => rfl) hS ?_
  simp only [Act.put, List.setIfInBounds_toArray, List.set_cons_zero, List.set_cons_succ]
  refine takeH 3 rfl rfl (some 30) rfl (.pointer (some ⟨w.heap.size, 2, none⟩)) (by kernel_rfl) (by kernel_rfl) (by kernel_rfl) (fun _ _ _ h => h) (fun _ _ => by kernel_rfl) hS ?_
  simp only [Act.put, List.setIfInBounds_toArray, List.set_cons_zero, List.set_cons_succ]
  refine takeH 4 rfl rfl (some 31) rfl (.pointer (some ⟨w.heap.size, 5, none⟩)) (by kernel_rfl) (by kernel_rfl) (by kernel_rfl) (fun _ _ _ h => h) (fun w1 _ => runAt _ _ _ rfl _ _ _ rfl rfl (atTwelve w1 _ 2 3 (by omega))) hS ?_
  simp only [Act.put, List.setIfInBounds_toArray, List.set_cons_zero, List.set_cons_succ]
  refine takeH 5 rfl rfl (some 32) rfl (.int .u64 6) (by kernel_rfl) (by kernel_rfl) (by kernel_rfl) (fun _ _ _ h => h) (fun w1 h1 => runLoad _ _ rfl _ _ rfl (ldWord w1 _ _ (by rw [cell_of_row _ _ _ _ _ _ h1.2]; rfl))) hS ?_
  simp only [Act.put, List.setIfInBounds_toArray, List.set_cons_zero, List.set_cons_succ]
  refine takeH 7 rfl rfl (some 34) rfl (.agg #[.int .i64 32, .int .i64 64, .int .u64 2, .int .u64 13, .int .u64 22, .int .u64 6, .int .u64 11, .int .u64 25, .int .u64 7, .int .u64 18, .int .u64 3, .int .u64 17, .int .u64 19, .int .u64 10]) (by kernel_rfl) (by kernel_rfl) (by kernel_rfl) (fun _ _ _ h => h) (fun w1 h1 => runFormR _ rfl rfl h1.2) hS ?_
  simp only [Act.put, List.setIfInBounds_toArray, List.set_cons_zero, List.set_cons_succ]
  refine takeH 8 rfl rfl (some 35) rfl (.int .u64 (x : Int)) (by kernel_rfl) (by kernel_rfl) (by kernel_rfl) (fun _ _ _ h => h) (fun _ _ => rfl) hS ?_
  simp only [Act.put, List.setIfInBounds_toArray, List.set_cons_zero, List.set_cons_succ]
  refine takeH 9 rfl rfl (some 36) rfl (.int .i64 3) (by kernel_rfl) (by kernel_rfl) (by kernel_rfl) (fun _ _ _ h => h) (fun _ _ => rfl) hS ?_
  simp only [Act.put, List.setIfInBounds_toArray, List.set_cons_zero, List.set_cons_succ]
  refine takeH 10 rfl rfl (some 37) rfl (.int .i64 4) (by kernel_rfl) (by kernel_rfl) (by kernel_rfl) (fun _ _ _ h => h) (fun _ _ => rfl) hS ?_
  simp only [Act.put, List.setIfInBounds_toArray, List.set_cons_zero, List.set_cons_succ]
  refine takeH 11 rfl rfl (some 38) rfl (.pointer (some ⟨w.heap.size, 2, none⟩)) (by kernel_rfl) (by kernel_rfl) (by kernel_rfl) (fun _ _ _ h => h) (fun _ _ => by kernel_rfl) hS ?_
  simp only [Act.put, List.setIfInBounds_toArray, List.set_cons_zero, List.set_cons_succ]
  refine takeH 12 rfl rfl (some 39) rfl (.pointer (some ⟨w.heap.size, 6, none⟩)) (by kernel_rfl) (by kernel_rfl) (by kernel_rfl) (fun _ _ _ h => h) (fun w1 _ => runAt _ _ _ rfl _ _ _ rfl rfl (atTwelve w1 _ 2 4 (by omega))) hS ?_
  simp only [Act.put, List.setIfInBounds_toArray, List.set_cons_zero, List.set_cons_succ]
  refine takeH 13 rfl rfl (some 40) rfl (.int .u64 11) (by kernel_rfl) (by kernel_rfl) (by kernel_rfl) (fun _ _ _ h => h) (fun w1 h1 => runLoad _ _ rfl _ _ rfl (ldWord w1 _ _ (by rw [cell_of_row _ _ _ _ _ _ h1.2]; rfl))) hS ?_
  simp only [Act.put, List.setIfInBounds_toArray, List.set_cons_zero, List.set_cons_succ]
  refine takeH 16 rfl rfl (some 43) rfl (.int .u64 (xc : Int)) (by kernel_rfl) (by kernel_rfl) (by kernel_rfl) (fun _ _ _ h => h) (fun _ _ => rfl) hS ?_
  simp only [Act.put, List.setIfInBounds_toArray, List.set_cons_zero, List.set_cons_succ]
  refine oneH 6 rfl rfl (by kernel_rfl) fun K hK => ?_
  refine wpH_call (some 33) rfl 55 #[.agg #[.int .i64 32, .int .i64 64, .int .u64 2, .int .u64 13, .int .u64 22, .int .u64 6, .int .u64 11, .int .u64 25, .int .u64 7, .int .u64 18, .int .u64 3, .int .u64 17, .int .u64 19, .int .u64 10], .int .u64 (x : Int), .int .u64 6] (by kernel_rfl) _ _ (HA.out _) fun Wc1 hWc1 => ?_
  simp only [Act.put, List.setIfInBounds_toArray, List.set_cons_zero, List.set_cons_succ]
  have hSc1 := RefS.keep W1.drew Wc1 hS hWc1
  refine hK _ _ hSc1 fun _ => ?_
  clear hK K
  refine oneH 14 rfl rfl (by kernel_rfl) fun K hK => ?_
  refine wpH_call (some 41) rfl 55 #[.agg #[.int .i64 32, .int .i64 64, .int .u64 2, .int .u64 13, .int .u64 22, .int .u64 6, .int .u64 11, .int .u64 25, .int .u64 7, .int .u64 18, .int .u64 3, .int .u64 17, .int .u64 19, .int .u64 10], .int .u64 (x : Int), .int .u64 11] (by kernel_rfl) _ _ (HB.out _) fun Wc2 hWc2 => ?_
  simp only [Act.put, List.setIfInBounds_toArray, List.set_cons_zero, List.set_cons_succ]
  have hSc2 := RefS.keep Wc1 Wc2 hSc1 hWc2
  refine hK _ _ hSc2 fun _ => ?_
  clear hK K
  refine takeH 15 rfl rfl (some 42) rfl (.int .u64 ((xa ^^^ xb : Nat) : Int)) (by kernel_rfl) (by kernel_rfl) (by kernel_rfl) (fun _ _ _ h => h) (fun w1 _ => runXor64 _ _ _ rfl _ _ rfl rfl la lb) hSc2 ?_
  simp only [Act.put, List.setIfInBounds_toArray, List.set_cons_zero, List.set_cons_succ]
  refine takeH 17 rfl rfl (some 44) rfl (.int .u64 ((xa ^^^ xb ^^^ xc : Nat) : Int)) (by kernel_rfl) (by kernel_rfl) (by kernel_rfl) (fun _ _ _ h => h) (fun w1 _ => runXor64 _ _ _ rfl _ _ rfl rfl (xor_lt64 la lb) lc) hSc2 ?_
  simp only [Act.put, List.setIfInBounds_toArray, List.set_cons_zero, List.set_cons_succ]
  refine takeH 18 rfl rfl (some 8) rfl (.int .u64 ((xa ^^^ xb ^^^ xc : Nat) : Int)) (by kernel_rfl) (by kernel_rfl) (by kernel_rfl) (fun _ _ _ h => h) (fun _ _ => rfl) hSc2 ?_
  simp only [Act.put, List.setIfInBounds_toArray, List.set_cons_zero, List.set_cons_succ]
  refine wpAnyH_done (by kernel_rfl) ?_ _
  rw [← HS.out]
  go_wp2
  go_ret
  exact ⟨rfl, hSc2.1⟩
set_option maxRecDepth 100000 in
theorem three_s0_any (x : Nat) (w : World) (hx : x < 4294967296) : Calls Tryd.prog 36 #[RV, .int .u64 x, .int .i64 6, .bool true] w fun e w' => e = .returned (.int .u64 ((smallS x 7 18 3 : Nat) : Int)) ∧ Below w.heap.size w w' := by
  have HA := Lib.hid fun W => right_any x 7 W hx (by omega) (by omega)
  have HB := Lib.hid fun W => right_any x 18 W hx (by omega) (by omega)
  have la : rotr x 7 < 18446744073709551616 := Nat.lt_of_lt_of_le (rotr_lt 7 hx) (by omega)
  have lb : rotr x 18 < 18446744073709551616 := Nat.lt_of_lt_of_le (rotr_lt 18 hx) (by omega)
  have lc : x / 2 ^ 3 < 18446744073709551616 := Nat.lt_of_lt_of_le (shr_lt 3 hx) (by omega)
  have HS := Lib.hid (show smallS x 7 18 3 = rotr x 7 ^^^ rotr x 18 ^^^ x / 2 ^ 3 from rfl)
  have HSH := Lib.hid (show (x : Int) / 8 = ((x / 2 ^ 3 : Nat) : Int) from by simp)
  generalize smallS x 7 18 3 = r at *
  generalize rotr x 7 = xa at *
  generalize rotr x 18 = xb at *
  generalize x / 2 ^ 3 = xc at *
  have hxl : x < 18446744073709551616 := by omega
  have hsh := HSH.out
  unfold RV at *
  go_enter Tryd.func36, Tryd.ntmps36
  go_upto_region 4 with fail
  have hS : RefS w (w.alloc (.cells #[.int .i64 32, .int .i64 64, .int .u64 2, .int .u64 13, .int .u64 22, .int .u64 6, .int .u64 11, .int .u64 25, .int .u64 7, .int .u64 18, .int .u64 3, .int .u64 17, .int .u64 19, .int .u64 10] 48)) := ⟨(Below.refl _ _).alloc (Nat.le_refl _) _, heap_alloc_last w _⟩
  generalize w.alloc (.cells #[.int .i64 32, .int .i64 64, .int .u64 2, .int .u64 13, .int .u64 22, .int .u64 6, .int .u64 11, .int .u64 25, .int .u64 7, .int .u64 18, .int .u64 3, .int .u64 17, .int .u64 19, .int .u64 10] 48) = W0 at *
  replace hS : RefS w W0.drew := ⟨hS.1.drew, hS.2⟩
  refine wp_region_held (S := fun W => RefS w W) (by kernel_rfl) ?_
  change wpAnyH _ _ _ _ _ _ _ _ W0.drew
  refine takeH 0 rfl rfl (some 27) rfl (.agg #[.int .i64 32, .int .i64 64, .int .u64 2, .int .u64 13, .int .u64 22, .int .u64 6, .int .u64 11, .int .u64 25, .int .u64 7, .int .u64 18, .int .u64 3, .int .u64 17, .int .u64 19, .int .u64 10]) (by kernel_rfl) (by kernel_rfl) (by kernel_rfl) (fun _ _ _ h => h) (fun w1 h1 => runFormR _ rfl rfl h1.2) hS ?_
  simp only [Act.put, List.setIfInBounds_toArray, List.set_cons_zero, List.set_cons_succ]
  refine takeH 1 rfl rfl (some 28) rfl (.int .u64 (x : Int)) (by kernel_rfl) (by kernel_rfl) (by kernel_rfl) (fun _ _ _ h => h) (fun _ _ => rfl) hS ?_
  simp only [Act.put, List.setIfInBounds_toArray, List.set_cons_zero, List.set_cons_succ]
  refine takeH 2 rfl rfl (some 29) rfl (.int .i64 6) (by kernel_rfl) (by kernel_rfl) (by kernel_rfl) (fun _ _ _ h => h) (fun _ _ => rfl) hS ?_
  simp only [Act.put, List.setIfInBounds_toArray, List.set_cons_zero, List.set_cons_succ]
  refine takeH 3 rfl rfl (some 30) rfl (.pointer (some ⟨w.heap.size, 2, none⟩)) (by kernel_rfl) (by kernel_rfl) (by kernel_rfl) (fun _ _ _ h => h) (fun _ _ => by kernel_rfl) hS ?_
  simp only [Act.put, List.setIfInBounds_toArray, List.set_cons_zero, List.set_cons_succ]
  refine takeH 4 rfl rfl (some 31) rfl (.pointer (some ⟨w.heap.size, 8, none⟩)) (by kernel_rfl) (by kernel_rfl) (by kernel_rfl) (fun _ _ _ h => h) (fun w1 _ => runAt _ _ _ rfl _ _ _ rfl rfl (atTwelve w1 _ 2 6 (by omega))) hS ?_
  simp only [Act.put, List.setIfInBounds_toArray, List.set_cons_zero, List.set_cons_succ]
  refine takeH 5 rfl rfl (some 32) rfl (.int .u64 7) (by kernel_rfl) (by kernel_rfl) (by kernel_rfl) (fun _ _ _ h => h) (fun w1 h1 => runLoad _ _ rfl _ _ rfl (ldWord w1 _ _ (by rw [cell_of_row _ _ _ _ _ _ h1.2]; rfl))) hS ?_
  simp only [Act.put, List.setIfInBounds_toArray, List.set_cons_zero, List.set_cons_succ]
  refine takeH 7 rfl rfl (some 34) rfl (.agg #[.int .i64 32, .int .i64 64, .int .u64 2, .int .u64 13, .int .u64 22, .int .u64 6, .int .u64 11, .int .u64 25, .int .u64 7, .int .u64 18, .int .u64 3, .int .u64 17, .int .u64 19, .int .u64 10]) (by kernel_rfl) (by kernel_rfl) (by kernel_rfl) (fun _ _ _ h => h) (fun w1 h1 => runFormR _ rfl rfl h1.2) hS ?_
  simp only [Act.put, List.setIfInBounds_toArray, List.set_cons_zero, List.set_cons_succ]
  refine takeH 8 rfl rfl (some 35) rfl (.int .u64 (x : Int)) (by kernel_rfl) (by kernel_rfl) (by kernel_rfl) (fun _ _ _ h => h) (fun _ _ => rfl) hS ?_
  simp only [Act.put, List.setIfInBounds_toArray, List.set_cons_zero, List.set_cons_succ]
  refine takeH 9 rfl rfl (some 36) rfl (.int .i64 6) (by kernel_rfl) (by kernel_rfl) (by kernel_rfl) (fun _ _ _ h => h) (fun _ _ => rfl) hS ?_
  simp only [Act.put, List.setIfInBounds_toArray, List.set_cons_zero, List.set_cons_succ]
  refine takeH 10 rfl rfl (some 37) rfl (.int .i64 7) (by kernel_rfl) (by kernel_rfl) (by kernel_rfl) (fun _ _ _ h => h) (fun _ _ => rfl) hS ?_
  simp only [Act.put, List.setIfInBounds_toArray, List.set_cons_zero, List.set_cons_succ]
  refine takeH 11 rfl rfl (some 38) rfl (.pointer (some ⟨w.heap.size, 2, none⟩)) (by kernel_rfl) (by kernel_rfl) (by kernel_rfl) (fun _ _ _ h => h) (fun _ _ => by kernel_rfl) hS ?_
  simp only [Act.put, List.setIfInBounds_toArray, List.set_cons_zero, List.set_cons_succ]
  refine takeH 12 rfl rfl (some 39) rfl (.pointer (some ⟨w.heap.size, 9, none⟩)) (by kernel_rfl) (by kernel_rfl) (by kernel_rfl) (fun _ _ _ h => h) (fun w1 _ => runAt _ _ _ rfl _ _ _ rfl rfl (atTwelve w1 _ 2 7 (by omega))) hS ?_
  simp only [Act.put, List.setIfInBounds_toArray, List.set_cons_zero, List.set_cons_succ]
  refine takeH 13 rfl rfl (some 40) rfl (.int .u64 18) (by kernel_rfl) (by kernel_rfl) (by kernel_rfl) (fun _ _ _ h => h) (fun w1 h1 => runLoad _ _ rfl _ _ rfl (ldWord w1 _ _ (by rw [cell_of_row _ _ _ _ _ _ h1.2]; rfl))) hS ?_
  simp only [Act.put, List.setIfInBounds_toArray, List.set_cons_zero, List.set_cons_succ]
  refine takeH 16 rfl rfl (some 43) rfl (.int .u64 (xc : Int)) (by kernel_rfl) (by kernel_rfl) (by kernel_rfl) (fun _ _ _ h => h) (fun _ _ => rfl) hS ?_
  simp only [Act.put, List.setIfInBounds_toArray, List.set_cons_zero, List.set_cons_succ]
  refine oneH 6 rfl rfl (by kernel_rfl) fun K hK => ?_
  refine wpH_call (some 33) rfl 55 #[.agg #[.int .i64 32, .int .i64 64, .int .u64 2, .int .u64 13, .int .u64 22, .int .u64 6, .int .u64 11, .int .u64 25, .int .u64 7, .int .u64 18, .int .u64 3, .int .u64 17, .int .u64 19, .int .u64 10], .int .u64 (x : Int), .int .u64 7] (by kernel_rfl) _ _ (HA.out _) fun Wc1 hWc1 => ?_
  simp only [Act.put, List.setIfInBounds_toArray, List.set_cons_zero, List.set_cons_succ]
  have hSc1 := RefS.keep W0.drew Wc1 hS hWc1
  refine hK _ _ hSc1 fun _ => ?_
  clear hK K
  refine oneH 14 rfl rfl (by kernel_rfl) fun K hK => ?_
  refine wpH_call (some 41) rfl 55 #[.agg #[.int .i64 32, .int .i64 64, .int .u64 2, .int .u64 13, .int .u64 22, .int .u64 6, .int .u64 11, .int .u64 25, .int .u64 7, .int .u64 18, .int .u64 3, .int .u64 17, .int .u64 19, .int .u64 10], .int .u64 (x : Int), .int .u64 18] (by kernel_rfl) _ _ (HB.out _) fun Wc2 hWc2 => ?_
  simp only [Act.put, List.setIfInBounds_toArray, List.set_cons_zero, List.set_cons_succ]
  have hSc2 := RefS.keep Wc1 Wc2 hSc1 hWc2
  refine hK _ _ hSc2 fun _ => ?_
  clear hK K
  refine takeH 15 rfl rfl (some 42) rfl (.int .u64 ((xa ^^^ xb : Nat) : Int)) (by kernel_rfl) (by kernel_rfl) (by kernel_rfl) (fun _ _ _ h => h) (fun w1 _ => runXor64 _ _ _ rfl _ _ rfl rfl la lb) hSc2 ?_
  simp only [Act.put, List.setIfInBounds_toArray, List.set_cons_zero, List.set_cons_succ]
  refine takeH 17 rfl rfl (some 44) rfl (.int .u64 ((xa ^^^ xb ^^^ xc : Nat) : Int)) (by kernel_rfl) (by kernel_rfl) (by kernel_rfl) (fun _ _ _ h => h) (fun w1 _ => runXor64 _ _ _ rfl _ _ rfl rfl (xor_lt64 la lb) lc) hSc2 ?_
  simp only [Act.put, List.setIfInBounds_toArray, List.set_cons_zero, List.set_cons_succ]
  refine takeH 18 rfl rfl (some 8) rfl (.int .u64 ((xa ^^^ xb ^^^ xc : Nat) : Int)) (by kernel_rfl) (by kernel_rfl) (by kernel_rfl) (fun _ _ _ h => h) (fun _ _ => rfl) hSc2 ?_
  simp only [Act.put, List.setIfInBounds_toArray, List.set_cons_zero, List.set_cons_succ]
  refine wpAnyH_done (by kernel_rfl) ?_ _
  rw [← HS.out]
  go_wp2
  go_ret
  exact ⟨rfl, hSc2.1⟩
set_option maxRecDepth 100000 in
theorem three_s1_any (x : Nat) (w : World) (hx : x < 4294967296) : Calls Tryd.prog 36 #[RV, .int .u64 x, .int .i64 9, .bool true] w fun e w' => e = .returned (.int .u64 ((smallS x 17 19 10 : Nat) : Int)) ∧ Below w.heap.size w w' := by
  have HA := Lib.hid fun W => right_any x 17 W hx (by omega) (by omega)
  have HB := Lib.hid fun W => right_any x 19 W hx (by omega) (by omega)
  have la : rotr x 17 < 18446744073709551616 := Nat.lt_of_lt_of_le (rotr_lt 17 hx) (by omega)
  have lb : rotr x 19 < 18446744073709551616 := Nat.lt_of_lt_of_le (rotr_lt 19 hx) (by omega)
  have lc : x / 2 ^ 10 < 18446744073709551616 := Nat.lt_of_lt_of_le (shr_lt 10 hx) (by omega)
  have HS := Lib.hid (show smallS x 17 19 10 = rotr x 17 ^^^ rotr x 19 ^^^ x / 2 ^ 10 from rfl)
  have HSH := Lib.hid (show (x : Int) / 1024 = ((x / 2 ^ 10 : Nat) : Int) from by simp)
  generalize smallS x 17 19 10 = r at *
  generalize rotr x 17 = xa at *
  generalize rotr x 19 = xb at *
  generalize x / 2 ^ 10 = xc at *
  have hxl : x < 18446744073709551616 := by omega
  have hsh := HSH.out
  unfold RV at *
  go_enter Tryd.func36, Tryd.ntmps36
  go_upto_region 4 with fail
  have hS : RefS w (w.alloc (.cells #[.int .i64 32, .int .i64 64, .int .u64 2, .int .u64 13, .int .u64 22, .int .u64 6, .int .u64 11, .int .u64 25, .int .u64 7, .int .u64 18, .int .u64 3, .int .u64 17, .int .u64 19, .int .u64 10] 48)) := ⟨(Below.refl _ _).alloc (Nat.le_refl _) _, heap_alloc_last w _⟩
  generalize w.alloc (.cells #[.int .i64 32, .int .i64 64, .int .u64 2, .int .u64 13, .int .u64 22, .int .u64 6, .int .u64 11, .int .u64 25, .int .u64 7, .int .u64 18, .int .u64 3, .int .u64 17, .int .u64 19, .int .u64 10] 48) = W0 at *
  replace hS : RefS w W0.drew := ⟨hS.1.drew, hS.2⟩
  refine wp_region_held (S := fun W => RefS w W) (by kernel_rfl) ?_
  change wpAnyH _ _ _ _ _ _ _ _ W0.drew
  refine takeH 0 rfl rfl (some 27) rfl (.agg #[.int .i64 32, .int .i64 64, .int .u64 2, .int .u64 13, .int .u64 22, .int .u64 6, .int .u64 11, .int .u64 25, .int .u64 7, .int .u64 18, .int .u64 3, .int .u64 17, .int .u64 19, .int .u64 10]) (by kernel_rfl) (by kernel_rfl) (by kernel_rfl) (fun _ _ _ h => h) (fun w1 h1 => runFormR _ rfl rfl h1.2) hS ?_
  simp only [Act.put, List.setIfInBounds_toArray, List.set_cons_zero, List.set_cons_succ]
  refine takeH 1 rfl rfl (some 28) rfl (.int .u64 (x : Int)) (by kernel_rfl) (by kernel_rfl) (by kernel_rfl) (fun _ _ _ h => h) (fun _ _ => rfl) hS ?_
  simp only [Act.put, List.setIfInBounds_toArray, List.set_cons_zero, List.set_cons_succ]
  refine takeH 2 rfl rfl (some 29) rfl (.int .i64 9) (by kernel_rfl) (by kernel_rfl) (by kernel_rfl) (fun _ _ _ h => h) (fun _ _ => rfl) hS ?_
  simp only [Act.put, List.setIfInBounds_toArray, List.set_cons_zero, List.set_cons_succ]
  refine takeH 3 rfl rfl (some 30) rfl (.pointer (some ⟨w.heap.size, 2, none⟩)) (by kernel_rfl) (by kernel_rfl) (by kernel_rfl) (fun _ _ _ h => h) (fun _ _ => by kernel_rfl) hS ?_
  simp only [Act.put, List.setIfInBounds_toArray, List.set_cons_zero, List.set_cons_succ]
  refine takeH 4 rfl rfl (some 31) rfl (.pointer (some ⟨w.heap.size, 11, none⟩)) (by kernel_rfl) (by kernel_rfl) (by kernel_rfl) (fun _ _ _ h => h) (fun w1 _ => runAt _ _ _ rfl _ _ _ rfl rfl (atTwelve w1 _ 2 9 (by omega))) hS ?_
  simp only [Act.put, List.setIfInBounds_toArray, List.set_cons_zero, List.set_cons_succ]
  refine takeH 5 rfl rfl (some 32) rfl (.int .u64 17) (by kernel_rfl) (by kernel_rfl) (by kernel_rfl) (fun _ _ _ h => h) (fun w1 h1 => runLoad _ _ rfl _ _ rfl (ldWord w1 _ _ (by rw [cell_of_row _ _ _ _ _ _ h1.2]; rfl))) hS ?_
  simp only [Act.put, List.setIfInBounds_toArray, List.set_cons_zero, List.set_cons_succ]
  refine takeH 7 rfl rfl (some 34) rfl (.agg #[.int .i64 32, .int .i64 64, .int .u64 2, .int .u64 13, .int .u64 22, .int .u64 6, .int .u64 11, .int .u64 25, .int .u64 7, .int .u64 18, .int .u64 3, .int .u64 17, .int .u64 19, .int .u64 10]) (by kernel_rfl) (by kernel_rfl) (by kernel_rfl) (fun _ _ _ h => h) (fun w1 h1 => runFormR _ rfl rfl h1.2) hS ?_
  simp only [Act.put, List.setIfInBounds_toArray, List.set_cons_zero, List.set_cons_succ]
  refine takeH 8 rfl rfl (some 35) rfl (.int .u64 (x : Int)) (by kernel_rfl) (by kernel_rfl) (by kernel_rfl) (fun _ _ _ h => h) (fun _ _ => rfl) hS ?_
  simp only [Act.put, List.setIfInBounds_toArray, List.set_cons_zero, List.set_cons_succ]
  refine takeH 9 rfl rfl (some 36) rfl (.int .i64 9) (by kernel_rfl) (by kernel_rfl) (by kernel_rfl) (fun _ _ _ h => h) (fun _ _ => rfl) hS ?_
  simp only [Act.put, List.setIfInBounds_toArray, List.set_cons_zero, List.set_cons_succ]
  refine takeH 10 rfl rfl (some 37) rfl (.int .i64 10) (by kernel_rfl) (by kernel_rfl) (by kernel_rfl) (fun _ _ _ h => h) (fun _ _ => rfl) hS ?_
  simp only [Act.put, List.setIfInBounds_toArray, List.set_cons_zero, List.set_cons_succ]
  refine takeH 11 rfl rfl (some 38) rfl (.pointer (some ⟨w.heap.size, 2, none⟩)) (by kernel_rfl) (by kernel_rfl) (by kernel_rfl) (fun _ _ _ h => h) (fun _ _ => by kernel_rfl) hS ?_
  simp only [Act.put, List.setIfInBounds_toArray, List.set_cons_zero, List.set_cons_succ]
  refine takeH 12 rfl rfl (some 39) rfl (.pointer (some ⟨w.heap.size, 12, none⟩)) (by kernel_rfl) (by kernel_rfl) (by kernel_rfl) (fun _ _ _ h => h) (fun w1 _ => runAt _ _ _ rfl _ _ _ rfl rfl (atTwelve w1 _ 2 10 (by omega))) hS ?_
  simp only [Act.put, List.setIfInBounds_toArray, List.set_cons_zero, List.set_cons_succ]
  refine takeH 13 rfl rfl (some 40) rfl (.int .u64 19) (by kernel_rfl) (by kernel_rfl) (by kernel_rfl) (fun _ _ _ h => h) (fun w1 h1 => runLoad _ _ rfl _ _ rfl (ldWord w1 _ _ (by rw [cell_of_row _ _ _ _ _ _ h1.2]; rfl))) hS ?_
  simp only [Act.put, List.setIfInBounds_toArray, List.set_cons_zero, List.set_cons_succ]
  refine takeH 16 rfl rfl (some 43) rfl (.int .u64 (xc : Int)) (by kernel_rfl) (by kernel_rfl) (by kernel_rfl) (fun _ _ _ h => h) (fun _ _ => rfl) hS ?_
  simp only [Act.put, List.setIfInBounds_toArray, List.set_cons_zero, List.set_cons_succ]
  refine oneH 6 rfl rfl (by kernel_rfl) fun K hK => ?_
  refine wpH_call (some 33) rfl 55 #[.agg #[.int .i64 32, .int .i64 64, .int .u64 2, .int .u64 13, .int .u64 22, .int .u64 6, .int .u64 11, .int .u64 25, .int .u64 7, .int .u64 18, .int .u64 3, .int .u64 17, .int .u64 19, .int .u64 10], .int .u64 (x : Int), .int .u64 17] (by kernel_rfl) _ _ (HA.out _) fun Wc1 hWc1 => ?_
  simp only [Act.put, List.setIfInBounds_toArray, List.set_cons_zero, List.set_cons_succ]
  have hSc1 := RefS.keep W0.drew Wc1 hS hWc1
  refine hK _ _ hSc1 fun _ => ?_
  clear hK K
  refine oneH 14 rfl rfl (by kernel_rfl) fun K hK => ?_
  refine wpH_call (some 41) rfl 55 #[.agg #[.int .i64 32, .int .i64 64, .int .u64 2, .int .u64 13, .int .u64 22, .int .u64 6, .int .u64 11, .int .u64 25, .int .u64 7, .int .u64 18, .int .u64 3, .int .u64 17, .int .u64 19, .int .u64 10], .int .u64 (x : Int), .int .u64 19] (by kernel_rfl) _ _ (HB.out _) fun Wc2 hWc2 => ?_
  simp only [Act.put, List.setIfInBounds_toArray, List.set_cons_zero, List.set_cons_succ]
  have hSc2 := RefS.keep Wc1 Wc2 hSc1 hWc2
  refine hK _ _ hSc2 fun _ => ?_
  clear hK K
  refine takeH 15 rfl rfl (some 42) rfl (.int .u64 ((xa ^^^ xb : Nat) : Int)) (by kernel_rfl) (by kernel_rfl) (by kernel_rfl) (fun _ _ _ h => h) (fun w1 _ => runXor64 _ _ _ rfl _ _ rfl rfl la lb) hSc2 ?_
  simp only [Act.put, List.setIfInBounds_toArray, List.set_cons_zero, List.set_cons_succ]
  refine takeH 17 rfl rfl (some 44) rfl (.int .u64 ((xa ^^^ xb ^^^ xc : Nat) : Int)) (by kernel_rfl) (by kernel_rfl) (by kernel_rfl) (fun _ _ _ h => h) (fun w1 _ => runXor64 _ _ _ rfl _ _ rfl rfl (xor_lt64 la lb) lc) hSc2 ?_
  simp only [Act.put, List.setIfInBounds_toArray, List.set_cons_zero, List.set_cons_succ]
  refine takeH 18 rfl rfl (some 8) rfl (.int .u64 ((xa ^^^ xb ^^^ xc : Nat) : Int)) (by kernel_rfl) (by kernel_rfl) (by kernel_rfl) (fun _ _ _ h => h) (fun _ _ => rfl) hSc2 ?_
  simp only [Act.put, List.setIfInBounds_toArray, List.set_cons_zero, List.set_cons_succ]
  refine wpAnyH_done (by kernel_rfl) ?_ _
  rw [← HS.out]
  go_wp2
  go_ret
  exact ⟨rfl, hSc2.1⟩
end Go.Proofs.YtpgadpnaekhiaaaDoor.Sha32
