/-
  Several texts in one: ShaA64 ShaB64 ShaC64 ShaD64 ShaE64 ShaF64.
  Conditions: named at each.
-/
import Derived.Test.YtlbpodddokhmaaaGreatBw
import Derived.BigRegion
import Derived.Test.YtlbpodddokhmaaaGreatShaG
import Derived.Test.YtlbpodddokhmaaaGreatShelf
/-
  SHA-2's words of 64 bits: the walks of turn, big, small.
  Conditions: words that fit; turns of less than a word.
-/
namespace Go.Proofs.YtlbpodddokhmaaaGreat.Sha64
open Go.ChangeShapes Go.WideShapes Go.ChangeAt Go.RowKit Go.Deep Go.Proofs.YtlbpodddokhmaaaGreat.Bw
/-- The form. -/
def FV : Value := .agg #[.int .i64 64, .int .i64 80, .int .i64 28, .int .i64 34, .int .i64 39, .int .i64 14, .int .i64 18, .int .i64 41, .int .i64 1, .int .i64 8, .int .i64 7, .int .i64 19, .int .i64 61, .int .i64 6]
def rotr (x n : Nat) : Nat := x / 2 ^ n ||| x * 2 ^ (64 - n) % 18446744073709551616
theorem shr_lt {x : Nat} (n : Nat) (hx : x < 18446744073709551616) : x / 2 ^ n < 18446744073709551616 := Nat.lt_of_le_of_lt (Nat.div_le_self _ _) hx
theorem rotr_lt {x : Nat} (n : Nat) (hx : x < 18446744073709551616) : rotr x n < 18446744073709551616 := or_lt64 (shr_lt n hx) (Nat.mod_lt _ (by omega))
def bigS (x a b c : Nat) : Nat := rotr x a ^^^ rotr x b ^^^ rotr x c
def smallS (x a b c : Nat) : Nat := rotr x a ^^^ rotr x b ^^^ x / 2 ^ c
theorem bigS_lt {x : Nat} (a b c : Nat) (hx : x < 18446744073709551616) : bigS x a b c < 18446744073709551616 := xor_lt64 (xor_lt64 (rotr_lt a hx) (rotr_lt b hx)) (rotr_lt c hx)
theorem smallS_lt {x : Nat} (a b c : Nat) (hx : x < 18446744073709551616) : smallS x a b c < 18446744073709551616 := xor_lt64 (xor_lt64 (rotr_lt a hx) (rotr_lt b hx)) (shr_lt c hx)
set_option maxRecDepth 100000 in
theorem turn_any (x n : Nat) (w : World) (hx : x < 18446744073709551616) (hn : 0 < n) (hn2 : n < 64) : Calls Tryz.prog 150 #[.int .u64 x, .int .i64 n, FV] w fun e w' => e = .returned (.int .u64 ((rotr x n : Nat) : Int)) ∧ Below w.heap.size w w' := by
  have hni : (n : Int) < 64 := by omega
  have hn0 : 0 < (n : Int) := by omega
  have hor : bits .or .u64 ((x : Int) / 2 ^ n) ((x : Int) * 2 ^ (64 - n) % 18446744073709551616) = ((rotr x n : Nat) : Int) := by
    rw [show (x : Int) / 2 ^ n = ((x / 2 ^ n : Nat) : Int) by simp, show (x : Int) * 2 ^ (64 - n) % 18446744073709551616 = ((x * 2 ^ (64 - n) % 18446744073709551616 : Nat) : Int) by simp]
    exact or64 _ _ (shr_lt n hx) (Nat.mod_lt _ (by omega))
  have HOR := Lib.hid hor
  clear hor
  unfold FV
  go_enter Tryz.func150, Tryz.ntmps150
  go_wp2
  go_region
  go_wp2
  go_ret
  exact ⟨by rw [← HOR.out]; rfl, by ((repeat' (with_reducible first | exact Below.refl _ _ | assumption | refine Below.drew ?_ | refine below_drewN ?_ _ | refine Below.setCell ?_ ?_ _ | refine Below.alloc ?_ ?_ _ | refine Below.ext ?_ ?_ _ | refine Below.trans ?_ (Below.mono ‹_› ?_))) <;> first | omega | (simp; done) | (simp; omega))⟩
set_option maxRecDepth 100000 in
theorem big_any (x a b c : Nat) (w : World) (hx : x < 18446744073709551616) (ha : 0 < a) (ha2 : a < 64) (hb : 0 < b) (hb2 : b < 64) (hc : 0 < c) (hc2 : c < 64) : Calls Tryz.prog 144 #[.int .u64 x, .agg #[.int .i64 a, .int .i64 b, .int .i64 c], FV] w fun e w' => e = .returned (.int .u64 ((bigS x a b c : Nat) : Int)) ∧ Below w.heap.size w w' := by
  have HA := Lib.hid fun W => turn_any x a W hx ha ha2
  have HB := Lib.hid fun W => turn_any x b W hx hb hb2
  have HC := Lib.hid fun W => turn_any x c W hx hc hc2
  have la := rotr_lt a hx
  have lb := rotr_lt b hx
  have lc := rotr_lt c hx
  have HS := Lib.hid (show bigS x a b c = rotr x a ^^^ rotr x b ^^^ rotr x c from rfl)
  generalize bigS x a b c = r at *
  unfold FV at *
  generalize rotr x a = xa at *
  generalize rotr x b = xb at *
  generalize rotr x c = xc at *
  have h1 := xor64 xa xb la lb
  have l1 := xor_lt64 la lb
  generalize xa ^^^ xb = y at *
  have h2 := xor64 y xc l1 lc
  clear l1 la lb lc hx
  go_enter Tryz.func144, Tryz.ntmps144
  go_wp2
  (refine wp_region_ext_lit (by kernel_rfl) (by kernel_rfl) ?_; (repeat (any_goals (first | go_big_quiet_step ((first | (go_at_call 150; with_reducible first | exact Calls.ext_of' (HA.out _) | exact Calls.ext_of (HA.out _) | exact Calls.ext_of_same' (HA.out _) | exact Calls.ext_of_same (HA.out _)) | (go_at_call 150; with_reducible first | exact Calls.ext_of' (HB.out _) | exact Calls.ext_of (HB.out _) | exact Calls.ext_of_same' (HB.out _) | exact Calls.ext_of_same (HB.out _)) | (go_at_call 150; with_reducible first | exact Calls.ext_of' (HC.out _) | exact Calls.ext_of (HC.out _) | exact Calls.ext_of_same' (HC.out _) | exact Calls.ext_of_same (HC.out _)))) | quiet_step ((first | (go_at_call 150; with_reducible first | exact Calls.ext_of' (HA.out _) | exact Calls.ext_of (HA.out _) | exact Calls.ext_of_same' (HA.out _) | exact Calls.ext_of_same (HA.out _)) | (go_at_call 150; with_reducible first | exact Calls.ext_of' (HB.out _) | exact Calls.ext_of (HB.out _) | exact Calls.ext_of_same' (HB.out _) | exact Calls.ext_of_same (HB.out _)) | (go_at_call 150; with_reducible first | exact Calls.ext_of' (HC.out _) | exact Calls.ext_of (HC.out _) | exact Calls.ext_of_same' (HC.out _) | exact Calls.ext_of_same (HC.out _))))))); refine wpQuiet_nil ?_; rintro _ ⟨u, rfl⟩)
  go_wp2
  go_ret
  exact ⟨by rw [HS.out]; rfl, by ((repeat' (with_reducible first | exact Below.refl _ _ | assumption | refine Below.drew ?_ | refine below_drewN ?_ _ | refine Below.setCell ?_ ?_ _ | refine Below.alloc ?_ ?_ _ | refine Below.ext ?_ ?_ _ | refine Below.trans ?_ (Below.mono ‹_› ?_))) <;> first | omega | (simp; done) | (simp; omega))⟩
set_option maxRecDepth 100000 in
theorem small_any (x a b c : Nat) (w : World) (hx : x < 18446744073709551616) (ha : 0 < a) (ha2 : a < 64) (hb : 0 < b) (hb2 : b < 64) (hc2 : c < 64) : Calls Tryz.prog 149 #[.int .u64 x, .agg #[.int .i64 a, .int .i64 b, .int .i64 c], FV] w fun e w' => e = .returned (.int .u64 ((smallS x a b c : Nat) : Int)) ∧ Below w.heap.size w w' := by
  have HA := Lib.hid fun W => turn_any x a W hx ha ha2
  have HB := Lib.hid fun W => turn_any x b W hx hb hb2
  have hci : (c : Int) < 64 := by omega
  have la := rotr_lt a hx
  have lb := rotr_lt b hx
  have lc := shr_lt c hx
  have hsh : (x : Int) / 2 ^ c = ((x / 2 ^ c : Nat) : Int) := by simp
  have HS := Lib.hid (show smallS x a b c = rotr x a ^^^ rotr x b ^^^ x / 2 ^ c from rfl)
  generalize smallS x a b c = r at *
  unfold FV at *
  generalize rotr x a = xa at *
  generalize rotr x b = xb at *
  have HSH := Lib.hid hsh
  generalize x / 2 ^ c = xc at *
  have h1 := xor64 xa xb la lb
  have l1 := xor_lt64 la lb
  generalize xa ^^^ xb = y at *
  have h2 := xor64 y xc l1 lc
  clear l1 la lb lc hx
  go_enter Tryz.func149, Tryz.ntmps149
  go_wp2
  (refine wp_region_ext_lit (by kernel_rfl) (by kernel_rfl) ?_; (repeat (any_goals (first | go_big_quiet_step ((first | (go_at_call 150; with_reducible first | exact Calls.ext_of' (HA.out _) | exact Calls.ext_of (HA.out _) | exact Calls.ext_of_same' (HA.out _) | exact Calls.ext_of_same (HA.out _)) | (go_at_call 150; with_reducible first | exact Calls.ext_of' (HB.out _) | exact Calls.ext_of (HB.out _) | exact Calls.ext_of_same' (HB.out _) | exact Calls.ext_of_same (HB.out _)))) | quiet_step ((first | (go_at_call 150; with_reducible first | exact Calls.ext_of' (HA.out _) | exact Calls.ext_of (HA.out _) | exact Calls.ext_of_same' (HA.out _) | exact Calls.ext_of_same (HA.out _)) | (go_at_call 150; with_reducible first | exact Calls.ext_of' (HB.out _) | exact Calls.ext_of (HB.out _) | exact Calls.ext_of_same' (HB.out _) | exact Calls.ext_of_same (HB.out _))))))); refine wpQuiet_nil ?_; rintro _ ⟨u, rfl⟩)
  go_wp2
  go_ret
  exact ⟨by rw [HS.out]; rfl, by ((repeat' (with_reducible first | exact Below.refl _ _ | assumption | refine Below.drew ?_ | refine below_drewN ?_ _ | refine Below.setCell ?_ ?_ _ | refine Below.alloc ?_ ?_ _ | refine Below.ext ?_ ?_ _ | refine Below.trans ?_ (Below.mono ‹_› ?_))) <;> first | omega | (simp; done) | (simp; omega))⟩
end Go.Proofs.YtlbpodddokhmaaaGreat.Sha64
/-
  SHA-2's words of 64 bits: the walks of cut, table, begin.
  Conditions: the package's numbers lie in memory.
-/
namespace Go.Proofs.YtlbpodddokhmaaaGreat.Sha64
open Go.ChangeShapes Go.WideShapes Go.ChangeAt Go.RowKit Go.Deep Go.Proofs.YtlbpodddokhmaaaGreat.Bw
open Go.Proofs.YtlbpodddokhmaaaGreat.Sha (roundsL firstsL GlobAt zeros zeros_length made_zeros)
/-- A number's first bits. -/
def cutF (n : Nat) : Nat := n / 2 ^ (64 - 64)
theorem cutF_lt {n : Nat} (h : n < 18446744073709551616) : cutF n < 18446744073709551616 := by
  unfold cutF
  omega
set_option maxRecDepth 100000 in
theorem cut_any (n : Nat) (w : World) (hn : n < 18446744073709551616) : Calls Tryz.prog 142 #[.int .u64 n, FV] w fun e w' => e = .returned (.int .u64 ((cutF n : Nat) : Int)) ∧ Below w.heap.size w w' := by
  have HC := Lib.hid (show cutF n = n / 2 ^ (64 - 64) from rfl)
  have hl := cutF_lt hn
  unfold FV
  go_enter Tryz.func142, Tryz.ntmps142
  go_wp2
  go_ret
  exact ⟨by rw [HC.out]; first | rfl | simp, by ((repeat' (with_reducible first | exact Below.refl _ _ | assumption | refine Below.drew ?_ | refine below_drewN ?_ _ | refine Below.setCell ?_ ?_ _ | refine Below.alloc ?_ ?_ _ | refine Below.ext ?_ ?_ _ | refine Below.trans ?_ (Below.mono ‹_› ?_))) <;> first | omega | (simp; done) | (simp; omega))⟩
theorem ldWord (W : World) (p : Addr) (v : Value) (h : W.cell? p = some v) : (Instr.loadAt 76 (.pointer (some p))).run Tryz.prog W = .ok v W := by
  go_simp
theorem stWord (W : World) (b i : Nat) (v : Int) (old : Value) (h : W.cell? ⟨b, i, none⟩ = some old) (hf : W.frozen? ⟨b, i, none⟩ = false) : (Instr.storeAt 76 (.pointer (some ⟨b, i, none⟩)) (.int .u64 v)).run Tryz.prog W = .ok () (W.setCell ⟨b, i, none⟩ (.int .u64 v)) := by
  go_simp
theorem runStore {P : Program} {o : Oper} {a : Act} {w w' : World} (t : TypeId) (x y : Operand) (ho : o.op = .store t x y) (vx vy : Value) (hx : a.eval x = vx) (hy : a.eval y = vy) (hrun : (Instr.storeAt t vx vy).run P w = .ok () w') :
    (execOp a.eval o).run P w = .ok .skip w' := by
  subst hx hy
  unfold execOp
  simp only [ho, Sem.run_bind, Sem.run_pure, hrun, Result.andThen_ok]
theorem wpH_skip {P : Program} {Q : Exit → Act → World → Prop} {o : Oper} {a : Act} {w w' : World} {K : Act → World → Prop} (hdst : o.dst = none) (hrun : (execOp a.eval o).run P w = .ok .skip w') (h : K a w') : o.wp P a w K Q := by
  unfold Oper.wp
  rw [hrun]
  show K (a.put o.dst undef) w'
  rw [hdst]
  exact h
theorem runAt {P : Program} {o : Oper} {a : Act} {w : World} (t : TypeId) (x y : Operand) (ho : o.op = .indexAddr t x y) (vx vy v : Value) (hx : a.eval x = vx) (hy : a.eval y = vy) (hrun : (Instr.indexAt t vx vy).run P w = .ok v w) :
    (execOp a.eval o).run P w = .ok (.value v) w := by
  subst hx hy
  unfold execOp
  simp only [ho, Sem.run_bind, Sem.run_pure, hrun, Result.andThen_ok]
theorem runLoad {P : Program} {o : Oper} {a : Act} {w : World} (t : TypeId) (x : Operand) (ho : o.op = .load t x) (vx v : Value) (hx : a.eval x = vx) (hrun : (Instr.loadAt t vx).run P w = .ok v w) :
    (execOp a.eval o).run P w = .ok (.value v) w := by
  subst hx
  unfold execOp
  simp only [ho, Sem.run_bind, Sem.run_pure, hrun, Result.andThen_ok]
/-- An index into a slice of words, and into the arrays. -/
theorem atRow (W : World) (b i n cap : Nat) (h : i < n) : (Instr.indexAt 175 (.slice (some ⟨b, 0, none⟩) n cap) (.int .i64 (i : Int))).run Tryz.prog W = .ok (.pointer (some ⟨b, i, none⟩)) W := by
  have hi : (i : Int) < (n : Int) := by omega
  go_simp
theorem atRounds (W : World) (b i : Nat) (h : i < 80) : (Instr.indexAt 92 (.pointer (some ⟨b, 0, none⟩)) (.int .i64 (i : Int))).run Tryz.prog W = .ok (.pointer (some ⟨b, i, none⟩)) W := by
  have hi : (i : Int) < 80 := by omega
  go_simp
theorem infoW : (Tryz.prog.info? 76).map (fun i => (i.zero, i.size, i.bytes)) = some (some (.int .u64 0), 1, 8) := by kernel_rfl
theorem rounds_lt [Inhabited Go.Proofs.YtlbpodddokhmaaaGreat.Sha.Tabs] (i : Nat) : roundsL.getD i 0 < 18446744073709551616 := Sha.rounds_less i
/-- The rounds' numbers, as words. -/
def tableL [Inhabited Go.Proofs.YtlbpodddokhmaaaGreat.Sha.Tabs] : List Nat := tab (fun i => cutF (roundsL.getD i 0)) 80
/-- What a region of table keeps. -/
def TabS (w W : World) (R : Nat) : Prop := Below w.heap.size w W ∧ W.heap[w.heap.size]? = some (.cells #[.int .i64 64, .int .i64 80, .int .i64 28, .int .i64 34, .int .i64 39, .int .i64 14, .int .i64 18, .int .i64 41, .int .i64 1, .int .i64 8, .int .i64 7, .int .i64 19, .int .i64 61, .int .i64 6] 166 (0, 0)) ∧ ∃ l, NumsAt W (w.heap.size + 1) 76 .u64 l ∧ l.length = R
theorem TabS.keep {w : World} {R : Nat} (W W1 : World) (h : TabS w W R) (hb : Below W.heap.size W W1) : TabS w W1 R := by
  obtain ⟨a, b, l, c, d⟩ := h
  exact ⟨a.trans (hb.mono a.size), below_heap hb (lt_of_heap b) b, l, c.below hb, d⟩
theorem runForm {o : Oper} {a : Act} {W : World} {b : Nat} (x : Operand) (ho : o.op = .load 166 x) (hx : a.eval x = .pointer (some ⟨b, 0, none⟩)) (h : W.heap[b]? = some (.cells #[.int .i64 64, .int .i64 80, .int .i64 28, .int .i64 34, .int .i64 39, .int .i64 14, .int .i64 18, .int .i64 41, .int .i64 1, .int .i64 8, .int .i64 7, .int .i64 19, .int .i64 61, .int .i64 6] 166 (0, 0))) : (execOp a.eval o).run Tryz.prog W = .ok (.value (.agg #[.int .i64 64, .int .i64 80, .int .i64 28, .int .i64 34, .int .i64 39, .int .i64 14, .int .i64 18, .int .i64 41, .int .i64 1, .int .i64 8, .int .i64 7, .int .i64 19, .int .i64 61, .int .i64 6])) W :=
  run_load_row 166 x ho b hx _ _ _ h _ Tryz.underlying166 rfl (by kernel_rfl)
set_option maxHeartbeats 800000 in
set_option maxRecDepth 100000 in
theorem table_any [Inhabited Go.Proofs.YtlbpodddokhmaaaGreat.Sha.Tabs] (w : World) (hg : GlobAt w) : Calls Tryz.prog 127 #[FV] w fun e w' => ∃ b, e = .returned (.slice (some ⟨b, 0, none⟩) 80 80) ∧ NumsAt w' b 76 .u64 tableL ∧ w.heap.size ≤ b ∧ Below w.heap.size w w' := by
  have HG := Lib.hid hg
  have HGL := hg.lt
  have HTL := Lib.hid (show tableL = tab (fun i => cutF (roundsL.getD i 0)) 80 from rfl)
  clear hg
  have hFV : FV = .agg #[.int .i64 64, .int .i64 80, .int .i64 28, .int .i64 34, .int .i64 39, .int .i64 14, .int .i64 18, .int .i64 41, .int .i64 1, .int .i64 8, .int .i64 7, .int .i64 19, .int .i64 61, .int .i64 6] := rfl
  have HCUT := Lib.hid fun n W hn => cut_any n W hn
  rw [hFV] at *
  go_enter Tryz.func127, Tryz.ntmps127
  have hmk : (Instr.makeSlice 175 (.int .i64 80) (.int .i64 80)).run Tryz.prog (w.alloc (.cells #[.int .i64 64, .int .i64 80, .int .i64 28, .int .i64 34, .int .i64 39, .int .i64 14, .int .i64 18, .int .i64 41, .int .i64 1, .int .i64 8, .int .i64 7, .int .i64 19, .int .i64 61, .int .i64 6] 166)) = .ok (.slice (some ⟨w.heap.size + 1, 0, none⟩) 80 80) ((w.alloc (.cells #[.int .i64 64, .int .i64 80, .int .i64 28, .int .i64 34, .int .i64 39, .int .i64 14, .int .i64 18, .int .i64 41, .int .i64 1, .int .i64 8, .int .i64 7, .int .i64 19, .int .i64 61, .int .i64 6] 166)).alloc (.cells (nums .u64 (zeros 80)) 76)) := by
    have h := run_make_row' (P := Tryz.prog) 175 76 (.int .u64 0) 8 Tryz.underlying175 infoW rfl .i64 .i64 80 (by omega) (by omega) (w.alloc (.cells #[.int .i64 64, .int .i64 80, .int .i64 28, .int .i64 34, .int .i64 39, .int .i64 14, .int .i64 18, .int .i64 41, .int .i64 1, .int .i64 8, .int .i64 7, .int .i64 19, .int .i64 61, .int .i64 6] 166))
    rw [made_zeros, show (w.alloc (.cells #[.int .i64 64, .int .i64 80, .int .i64 28, .int .i64 34, .int .i64 39, .int .i64 14, .int .i64 18, .int .i64 41, .int .i64 1, .int .i64 8, .int .i64 7, .int .i64 19, .int .i64 61, .int .i64 6] 166)).heap.size = w.heap.size + 1 by simp] at h
    exact h
  go_wp2
  have hform : ((w.alloc (.cells #[.int .i64 64, .int .i64 80, .int .i64 28, .int .i64 34, .int .i64 39, .int .i64 14, .int .i64 18, .int .i64 41, .int .i64 1, .int .i64 8, .int .i64 7, .int .i64 19, .int .i64 61, .int .i64 6] 166)).alloc (.cells (nums .u64 (zeros 80)) 76)).heap[w.heap.size]? = some (.cells #[.int .i64 64, .int .i64 80, .int .i64 28, .int .i64 34, .int .i64 39, .int .i64 14, .int .i64 18, .int .i64 41, .int .i64 1, .int .i64 8, .int .i64 7, .int .i64 19, .int .i64 61, .int .i64 6] 166 (0, 0)) := heap_under (heap_alloc_last w _)
  have hrow : NumsAt ((w.alloc (.cells #[.int .i64 64, .int .i64 80, .int .i64 28, .int .i64 34, .int .i64 39, .int .i64 14, .int .i64 18, .int .i64 41, .int .i64 1, .int .i64 8, .int .i64 7, .int .i64 19, .int .i64 61, .int .i64 6] 166)).alloc (.cells (nums .u64 (zeros 80)) 76)) (w.heap.size + 1) 76 .u64 (zeros 80) := heap_at (by simp)
  have hbel : Below w.heap.size w ((w.alloc (.cells #[.int .i64 64, .int .i64 80, .int .i64 28, .int .i64 34, .int .i64 39, .int .i64 14, .int .i64 18, .int .i64 41, .int .i64 1, .int .i64 8, .int .i64 7, .int .i64 19, .int .i64 61, .int .i64 6] 166)).alloc (.cells (nums .u64 (zeros 80)) 76)) := by ((repeat' (with_reducible first | exact Below.refl _ _ | assumption | refine Below.drew ?_ | refine below_drewN ?_ _ | refine Below.setCell ?_ ?_ _ | refine Below.alloc ?_ ?_ _ | refine Below.ext ?_ ?_ _ | refine Below.trans ?_ (Below.mono ‹_› ?_))) <;> first | omega | (simp; done) | (simp; omega))
  clear hmk
  generalize (w.alloc (.cells #[.int .i64 64, .int .i64 80, .int .i64 28, .int .i64 34, .int .i64 39, .int .i64 14, .int .i64 18, .int .i64 41, .int .i64 1, .int .i64 8, .int .i64 7, .int .i64 19, .int .i64 61, .int .i64 6] 166)).alloc (.cells (nums .u64 (zeros 80)) 76) = W1 at *
  go_loopw [10] (fun s10 wr => ∃ (i : Nat) (l : List Nat), i ≤ 80 ∧ s10 = .int .i64 i ∧ l = fillN (fun i => cutF (roundsL.getD i 0)) (zeros 80) i ∧ NumsAt wr (w.heap.size + 1) 76 .u64 l ∧ wr.heap[w.heap.size]? = some (.cells #[.int .i64 64, .int .i64 80, .int .i64 28, .int .i64 34, .int .i64 39, .int .i64 14, .int .i64 18, .int .i64 41, .int .i64 1, .int .i64 8, .int .i64 7, .int .i64 19, .int .i64 61, .int .i64 6] 166 (0, 0)) ∧ Below w.heap.size w wr) (fun s _ => 80 - (intOf s).toNat)
  case atStart => exact ⟨0, zeros 80, by omega, rfl, rfl, hrow, hform, hbel⟩
  case round =>
    clear hrow hform hbel W1
    obtain ⟨i, l, hi, rfl, hl, hrow, hform, hbel⟩ := hrel
    have hll : l.length = 80 := by rw [hl, fillN_length, zeros_length]
    have HL := Lib.hid hl
    clear hl
    by_cases hend : i = 80
    · have hlt : ¬ (i : Int) < 80 := by omega
      have hl0 : l = tableL := by rw [HL.out, hend, fillN_full _ (zeros_length 80), HTL.out]
      rw [hl0] at hrow
      clear hend hl0 HL hll
      go_wp2
      go_ret
      exact ⟨_, rfl, hrow, by omega, hbel⟩
    · have hlt : (i : Int) < 80 := by omega
      have hi2 : i < 80 := by omega
      go_upto_region 5 with fail
      have hS : TabS w wr.drew 80 := ⟨hbel.drew, hform, l, hrow.drew, hll⟩
      refine wp_region_held (S := fun W => TabS w W 80) (by kernel_rfl) ?_
      change wpAnyH _ _ _ _ _ _ _ _ wr.drew
      refine takeH 0 rfl rfl (some 13) rfl (.slice (some ⟨w.heap.size + 1, 0, none⟩) 80 80) (by kernel_rfl) (by kernel_rfl) (by kernel_rfl) (fun _ _ _ h => h) (fun _ _ => rfl) hS ?_
      simp only [Act.put, List.setIfInBounds_toArray, List.set_cons_zero, List.set_cons_succ]
      refine takeH 1 rfl rfl (some 14) rfl (.int .i64 (i : Int)) (by kernel_rfl) (by kernel_rfl) (by kernel_rfl) (fun _ _ _ h => h) (fun _ _ => rfl) hS ?_
      simp only [Act.put, List.setIfInBounds_toArray, List.set_cons_zero, List.set_cons_succ]
      refine takeH 2 rfl rfl (some 15) rfl (.int .i64 (i : Int)) (by kernel_rfl) (by kernel_rfl) (by kernel_rfl) (fun _ _ _ h => h) (fun _ _ => rfl) hS ?_
      simp only [Act.put, List.setIfInBounds_toArray, List.set_cons_zero, List.set_cons_succ]
      refine takeH 3 rfl rfl (some 16) rfl (.pointer (some ⟨1, i, none⟩)) (by kernel_rfl) (by kernel_rfl) (by kernel_rfl) (fun _ _ _ h => h) (fun w1 _ => runAt _ _ _ rfl _ _ _ rfl rfl (atRounds w1 _ i (by omega))) hS ?_
      simp only [Act.put, List.setIfInBounds_toArray, List.set_cons_zero, List.set_cons_succ]
      refine takeH 4 rfl rfl (some 17) rfl (.int .u64 ((roundsL.getD i 0 : Nat) : Int)) (by kernel_rfl) (by kernel_rfl) (by kernel_rfl) (fun _ _ _ h => h) (fun w1 h1 => runLoad _ _ rfl _ _ rfl (ldWord w1 _ _ ((HG.out.below h1.1).1 i (by omega)))) hS ?_
      simp only [Act.put, List.setIfInBounds_toArray, List.set_cons_zero, List.set_cons_succ]
      refine takeH 5 rfl rfl (some 18) rfl (.agg #[.int .i64 64, .int .i64 80, .int .i64 28, .int .i64 34, .int .i64 39, .int .i64 14, .int .i64 18, .int .i64 41, .int .i64 1, .int .i64 8, .int .i64 7, .int .i64 19, .int .i64 61, .int .i64 6]) (by kernel_rfl) (by kernel_rfl) (by kernel_rfl) (fun _ _ _ h => h) (fun w1 h1 => runForm _ rfl rfl h1.2.1) hS ?_
      simp only [Act.put, List.setIfInBounds_toArray, List.set_cons_zero, List.set_cons_succ]
      refine oneH 6 rfl rfl (by kernel_rfl) fun K hK => ?_
      refine wpH_call (some 19) rfl 142 #[.int .u64 ((roundsL.getD i 0 : Nat) : Int), .agg #[.int .i64 64, .int .i64 80, .int .i64 28, .int .i64 34, .int .i64 39, .int .i64 14, .int .i64 18, .int .i64 41, .int .i64 1, .int .i64 8, .int .i64 7, .int .i64 19, .int .i64 61, .int .i64 6]] (by kernel_rfl) _ _ (HCUT.out _ wr.drew (rounds_lt i)) fun Wc1 hWc1 => ?_
      simp only [Act.put, List.setIfInBounds_toArray, List.set_cons_zero, List.set_cons_succ]
      have hSc1 := TabS.keep wr.drew Wc1 hS hWc1
      refine hK _ _ hSc1 fun _ => ?_
      clear hK K
      refine takeH 7 rfl rfl (some 20) rfl (.pointer (some ⟨w.heap.size + 1, i, none⟩)) (by kernel_rfl) (by kernel_rfl) (by kernel_rfl) (fun _ _ _ h => h) (fun w1 _ => runAt _ _ _ rfl _ _ _ rfl rfl (atRow w1 _ i _ _ hi2)) hSc1 ?_
      simp only [Act.put, List.setIfInBounds_toArray, List.set_cons_zero, List.set_cons_succ]
      have hrow1 := hrow.drew.below hWc1
      have hcl := hrow1.cell i (by omega)
      have hfz := hrow1.frozen i
      have hS2 : TabS w (Wc1.setCell ⟨w.heap.size + 1, i, none⟩ (.int .u64 ((cutF (roundsL.getD i 0) : Nat) : Int))) 80 := ⟨Below.setCell hSc1.1 (by show w.heap.size ≤ w.heap.size + 1; omega) _, by rw [setCell_block _ _ _ _ _ (by show ¬ w.heap.size + 1 = w.heap.size; omega)]; exact hSc1.2.1, _, hrow1.set i _, by rw [List.length_set]; exact hll⟩
      refine oneH 8 rfl rfl (by kernel_rfl) fun K hK => ?_
      refine wpH_skip (w' := Wc1.setCell ⟨w.heap.size + 1, i, none⟩ (.int .u64 ((cutF (roundsL.getD i 0) : Nat) : Int))) rfl (runStore _ _ _ rfl _ _ rfl rfl (stWord Wc1 _ i _ _ hcl hfz)) ?_
      refine hK _ _ hS2 fun _ => ?_
      clear hK K
      refine wpAnyH_done (by kernel_rfl) ?_ _
      have HB2 := Lib.hid hS2.1
      have HF2 := Lib.hid hS2.2.1
      have HR2 := Lib.hid (hrow1.set i (cutF (roundsL.getD i 0)))
      clear hS2 hcl hfz hrow1 hSc1 hWc1 hS hrow hform hbel
      generalize Wc1.setCell ⟨w.heap.size + 1, i, none⟩ (.int .u64 ((cutF (roundsL.getD i 0) : Nat) : Int)) = W9 at *
      go_wp2
      go_round
      case rel => exact ⟨i + 1, l.set i (cutF (roundsL.getD i 0)), by omega, by go_num, by rw [fillN, ← HL.out], HR2.out, HF2.out, HB2.out⟩
      case measure => simp [intOf]; omega
end Go.Proofs.YtlbpodddokhmaaaGreat.Sha64
/-
  SHA-2's words of 64 bits: the walk of begin.
  Conditions: the package's numbers lie in memory.
-/
namespace Go.Proofs.YtlbpodddokhmaaaGreat.Sha64
open Go.ChangeShapes Go.WideShapes Go.ChangeAt Go.RowKit Go.Deep Go.Proofs.YtlbpodddokhmaaaGreat.Bw
open Go.Proofs.YtlbpodddokhmaaaGreat.Sha (roundsL firstsL GlobAt zeros zeros_length made_zeros)
theorem atFirsts (W : World) (b i : Nat) (h : i < 2) : (Instr.indexAt 192 (.pointer (some ⟨b, 0, none⟩)) (.int .i64 (i : Int))).run Tryz.prog W = .ok (.pointer (some ⟨b, i * 8, none⟩)) W := by
  have hi : (i : Int) < 2 := by omega
  go_simp
theorem atEight (W : World) (b o i : Nat) (h : i < 8) : (Instr.indexAt 81 (.pointer (some ⟨b, o, none⟩)) (.int .i64 (i : Int))).run Tryz.prog W = .ok (.pointer (some ⟨b, o + i, none⟩)) W := by
  have hi : (i : Int) < 8 := by omega
  go_simp
theorem atWords (W : World) (b i : Nat) (h : i < 8) : (Instr.indexAt 81 (.pointer (some ⟨b, 0, none⟩)) (.int .i64 (i : Int))).run Tryz.prog W = .ok (.pointer (some ⟨b, i, none⟩)) W := by
  have hi : (i : Int) < 8 := by omega
  go_simp
theorem firsts_lt [Inhabited Go.Proofs.YtlbpodddokhmaaaGreat.Sha.Tabs] (i : Nat) : firstsL.getD i 0 < 18446744073709551616 := Sha.firsts_less i
/-- What is begun with. -/
def beginF [Inhabited Go.Proofs.YtlbpodddokhmaaaGreat.Sha.Tabs] (fr i : Nat) : Nat := cutF (firstsL.getD (fr * 8 + i) 0)
def beginL [Inhabited Go.Proofs.YtlbpodddokhmaaaGreat.Sha.Tabs] (fr : Nat) : List Nat := tab (beginF fr) 8
/-- What a region of begin keeps. -/
def BegS (w W : World) : Prop := Below w.heap.size w W ∧ W.heap[w.heap.size]? = some (.cells #[.int .i64 64, .int .i64 80, .int .i64 28, .int .i64 34, .int .i64 39, .int .i64 14, .int .i64 18, .int .i64 41, .int .i64 1, .int .i64 8, .int .i64 7, .int .i64 19, .int .i64 61, .int .i64 6] 166 (0, 0)) ∧ (∃ l, NumsAt W (w.heap.size + 2) 81 .u64 l ∧ l.length = 8) ∧ NumsAt W (w.heap.size + 1) 81 .u64 (zeros 8)
theorem BegS.keep {w : World} (W W1 : World) (h : BegS w W) (hb : Below W.heap.size W W1) : BegS w W1 := by
  obtain ⟨a, b, ⟨l, c, d⟩, e⟩ := h
  exact ⟨a.trans (hb.mono a.size), below_heap hb (lt_of_heap b) b, ⟨l, c.below hb, d⟩, e.below hb⟩
set_option maxHeartbeats 800000 in
set_option maxRecDepth 100000 in
theorem begin_any [Inhabited Go.Proofs.YtlbpodddokhmaaaGreat.Sha.Tabs] (size fr : Nat) (w : World) (hg : GlobAt w) (hs : (((size : Int) == 384) = true ∧ fr = 1) ∨ (((size : Int) == 384) = false ∧ fr = 0)) : Calls Tryz.prog 126 #[.int .i64 size, FV] w fun e w' => e = .returned (.agg (nums .u64 (beginL fr))) ∧ Below w.heap.size w w' := by
  have HG := Lib.hid hg
  have HGL := hg.lt
  have HTL := Lib.hid (show beginL fr = tab (beginF fr) 8 from rfl)
  have HBF := Lib.hid (show ∀ i, beginF fr i = cutF (firstsL.getD (fr * 8 + i) 0) from fun _ => rfl)
  have hBL : (beginL fr).length = 8 := tab_length _ _
  clear hg
  have hFV : FV = .agg #[.int .i64 64, .int .i64 80, .int .i64 28, .int .i64 34, .int .i64 39, .int .i64 14, .int .i64 18, .int .i64 41, .int .i64 1, .int .i64 8, .int .i64 7, .int .i64 19, .int .i64 61, .int .i64 6] := rfl
  have HCUT := Lib.hid fun n W hn => cut_any n W hn
  rw [hFV] at *
  have hfr2 : fr < 2 := by omega
  generalize beginL fr = BL at *
  generalize beginF fr = bf at *
  go_enter Tryz.func126, Tryz.ntmps126
  go_upto_if 9 with fail
  go_cut [5] from 9 (fun s5 W => s5 = .int .i64 (fr : Int) ∧ Below w.heap.size w W ∧ W.heap[w.heap.size]? = some (.cells #[.int .i64 64, .int .i64 80, .int .i64 28, .int .i64 34, .int .i64 39, .int .i64 14, .int .i64 18, .int .i64 41, .int .i64 1, .int .i64 8, .int .i64 7, .int .i64 19, .int .i64 61, .int .i64 6] 166 (0, 0)) ∧ NumsAt W (w.heap.size + 1) 81 .u64 (zeros 8) ∧ W.heap.size = w.heap.size + 2)
  case first =>
    have hnew : NumsAt ((w.alloc (.cells #[.int .i64 64, .int .i64 80, .int .i64 28, .int .i64 34, .int .i64 39, .int .i64 14, .int .i64 18, .int .i64 41, .int .i64 1, .int .i64 8, .int .i64 7, .int .i64 19, .int .i64 61, .int .i64 6] 166)).alloc (.cells (nums .u64 (zeros 8)) 81)) (w.heap.size + 1) 81 .u64 (zeros 8) := heap_at (by simp)
    rcases hs with ⟨hb, hfr⟩ | ⟨hb, hfr⟩
    all_goals
      have HFR := Lib.hid hfr
      clear hfr
      go_wp2
      go_meet
      exact ⟨by rw [HFR.out]; rfl, by ((repeat' (with_reducible first | exact Below.refl _ _ | assumption | refine Below.drew ?_ | refine below_drewN ?_ _ | refine Below.setCell ?_ ?_ _ | refine Below.alloc ?_ ?_ _ | refine Below.ext ?_ ?_ _ | refine Below.trans ?_ (Below.mono ‹_› ?_))) <;> first | omega | (simp; done) | (simp; omega)), heap_under (heap_alloc_last w _), hnew, by simp⟩
  case rest =>
    obtain ⟨rfl, hbel, hform, hres, hsz⟩ := hcut
    have HS := Lib.hid hs
    clear hs
    go_wp2
    have hrow := NumsAt.new wc 81 .u64 (zeros 8)
    rw [hsz] at hrow
    replace hbel : Below w.heap.size w (wc.alloc (.cells (nums .u64 (zeros 8)) 81)) := hbel.alloc (by omega) _
    replace hform : (wc.alloc (.cells (nums .u64 (zeros 8)) 81)).heap[w.heap.size]? = _ := heap_under hform
    replace hres := hres.alloc (.cells (nums .u64 (zeros 8)) 81)
    rw [show (#[.int .u64 0, .int .u64 0, .int .u64 0, .int .u64 0, .int .u64 0, .int .u64 0, .int .u64 0, .int .u64 0] : Array Value) = nums .u64 (zeros 8) by kernel_rfl]
    generalize wc.alloc (.cells (nums .u64 (zeros 8)) 81) = W1 at *
    clear hsz
    go_loopw [10] (fun s10 wr => ∃ (i : Nat) (l : List Nat), i ≤ 8 ∧ s10 = .int .i64 i ∧ l = fillN bf (zeros 8) i ∧ NumsAt wr (w.heap.size + 2) 81 .u64 l ∧ NumsAt wr (w.heap.size + 1) 81 .u64 (zeros 8) ∧ wr.heap[w.heap.size]? = some (.cells #[.int .i64 64, .int .i64 80, .int .i64 28, .int .i64 34, .int .i64 39, .int .i64 14, .int .i64 18, .int .i64 41, .int .i64 1, .int .i64 8, .int .i64 7, .int .i64 19, .int .i64 61, .int .i64 6] 166 (0, 0)) ∧ Below w.heap.size w wr) (fun s _ => 8 - (intOf s).toNat)
    case atStart => exact ⟨0, zeros 8, by omega, rfl, rfl, hrow, hres, hform, hbel⟩
    case round =>
      clear hrow hform hbel hres W1
      obtain ⟨i, l, hi, rfl, hl, hrow, hres, hform, hbel⟩ := hrel
      have hll : l.length = 8 := by rw [hl, fillN_length, zeros_length]
      have HL := Lib.hid hl
      clear hl
      by_cases hend : i = 8
      · have hlt : ¬ (i : Int) < 8 := by omega
        have hl0 : l = BL := by rw [HL.out, hend, fillN_full _ (zeros_length 8), HTL.out]
        rw [hl0] at hrow
        clear hend hl0 HL hll
        go_upto_region 10 with fail
        apply wp_region_lit (l := [_, _])
        refine wpList_load_rowTo rfl _ rfl 81 _ rfl (w.heap.size + 2) rfl (nums .u64 BL) 81 (0, 0) hrow _ Tryz.underlying81 rfl (by rw [nums_size, hBL]; kernel_rfl) ?_
        refine wpList_store_rowTo rfl 81 _ _ rfl rfl (w.heap.size + 1) (nums .u64 BL) rfl rfl 81 (nums .u64 (zeros 8)) hres (by rw [nums_size, hBL]; kernel_rfl) (by rw [nums_size, nums_size, hBL, zeros_length]) (nums_oneCell _ _) ?_
        have hres2 := hres.setRow BL
        have hbel2 := Below.setRow hbel (w.heap.size + 1) (by omega) (nums .u64 BL)
        generalize wr.setRow (w.heap.size + 1) (nums .u64 BL) = W9 at *
        go_wp2
        exact post_row (w.heap.size + 1) Tryz.results126 81 (nums .u64 BL) _ rfl hres2 Tryz.underlying81 rfl (by rw [nums_size, hBL]; kernel_rfl) rfl ⟨rfl, hbel2⟩
      · have hlt : (i : Int) < 8 := by omega
        have hi2 : i < 8 := by omega
        have hbi := HBF.out i
        go_upto_region 8 with fail
        have hS : BegS w wr.drew := ⟨hbel.drew, hform, ⟨l, hrow.drew, hll⟩, hres.drew⟩
        refine wp_region_held (S := fun W => BegS w W) (by kernel_rfl) ?_
        change wpAnyH _ _ _ _ _ _ _ _ wr.drew
        refine takeH 0 rfl rfl (some 13) rfl (.int .i64 (i : Int)) (by kernel_rfl) (by kernel_rfl) (by kernel_rfl) (fun _ _ _ h => h) (fun _ _ => rfl) hS ?_
        simp only [Act.put, List.setIfInBounds_toArray, List.set_cons_zero, List.set_cons_succ]
        refine takeH 1 rfl rfl (some 14) rfl (.int .i64 (fr : Int)) (by kernel_rfl) (by kernel_rfl) (by kernel_rfl) (fun _ _ _ h => h) (fun _ _ => rfl) hS ?_
        simp only [Act.put, List.setIfInBounds_toArray, List.set_cons_zero, List.set_cons_succ]
        refine takeH 2 rfl rfl (some 15) rfl (.int .i64 (i : Int)) (by kernel_rfl) (by kernel_rfl) (by kernel_rfl) (fun _ _ _ h => h) (fun _ _ => rfl) hS ?_
        simp only [Act.put, List.setIfInBounds_toArray, List.set_cons_zero, List.set_cons_succ]
        refine takeH 3 rfl rfl (some 16) rfl (.pointer (some ⟨0, fr * 8, none⟩)) (by kernel_rfl) (by kernel_rfl) (by kernel_rfl) (fun _ _ _ h => h) (fun w1 _ => runAt _ _ _ rfl _ _ _ rfl rfl (atFirsts w1 _ fr hfr2)) hS ?_
        simp only [Act.put, List.setIfInBounds_toArray, List.set_cons_zero, List.set_cons_succ]
        refine takeH 4 rfl rfl (some 17) rfl (.pointer (some ⟨0, fr * 8 + i, none⟩)) (by kernel_rfl) (by kernel_rfl) (by kernel_rfl) (fun _ _ _ h => h) (fun w1 _ => runAt _ _ _ rfl _ _ _ rfl rfl (atEight w1 _ _ i hi2)) hS ?_
        simp only [Act.put, List.setIfInBounds_toArray, List.set_cons_zero, List.set_cons_succ]
        refine takeH 5 rfl rfl (some 18) rfl (.int .u64 ((firstsL.getD (fr * 8 + i) 0 : Nat) : Int)) (by kernel_rfl) (by kernel_rfl) (by kernel_rfl) (fun _ _ _ h => h) (fun w1 h1 => runLoad _ _ rfl _ _ rfl (ldWord w1 _ _ ((HG.out.below h1.1).2 (fr * 8 + i) (by omega)))) hS ?_
        simp only [Act.put, List.setIfInBounds_toArray, List.set_cons_zero, List.set_cons_succ]
        refine takeH 6 rfl rfl (some 19) rfl (.agg #[.int .i64 64, .int .i64 80, .int .i64 28, .int .i64 34, .int .i64 39, .int .i64 14, .int .i64 18, .int .i64 41, .int .i64 1, .int .i64 8, .int .i64 7, .int .i64 19, .int .i64 61, .int .i64 6]) (by kernel_rfl) (by kernel_rfl) (by kernel_rfl) (fun _ _ _ h => h) (fun w1 h1 => runForm _ rfl rfl h1.2.1) hS ?_
        simp only [Act.put, List.setIfInBounds_toArray, List.set_cons_zero, List.set_cons_succ]
        refine oneH 7 rfl rfl (by kernel_rfl) fun K hK => ?_
        refine wpH_call (some 20) rfl 142 #[.int .u64 ((firstsL.getD (fr * 8 + i) 0 : Nat) : Int), .agg #[.int .i64 64, .int .i64 80, .int .i64 28, .int .i64 34, .int .i64 39, .int .i64 14, .int .i64 18, .int .i64 41, .int .i64 1, .int .i64 8, .int .i64 7, .int .i64 19, .int .i64 61, .int .i64 6]] (by kernel_rfl) _ _ (HCUT.out _ wr.drew (firsts_lt _)) fun Wc1 hWc1 => ?_
        simp only [Act.put, List.setIfInBounds_toArray, List.set_cons_zero, List.set_cons_succ]
        have hSc1 := BegS.keep wr.drew Wc1 hS hWc1
        refine hK _ _ hSc1 fun _ => ?_
        clear hK K
        refine takeH 8 rfl rfl (some 21) rfl (.pointer (some ⟨w.heap.size + 2, i, none⟩)) (by kernel_rfl) (by kernel_rfl) (by kernel_rfl) (fun _ _ _ h => h) (fun w1 _ => runAt _ _ _ rfl _ _ _ rfl rfl (atWords w1 _ i hi2)) hSc1 ?_
        simp only [Act.put, List.setIfInBounds_toArray, List.set_cons_zero, List.set_cons_succ]
        have hrow1 := hrow.drew.below hWc1
        have hcl := hrow1.cell i (by omega)
        have hfz := hrow1.frozen i
        rw [← hbi]
        have hS2 : BegS w (Wc1.setCell ⟨w.heap.size + 2, i, none⟩ (.int .u64 ((bf i : Nat) : Int))) := ⟨Below.setCell hSc1.1 (by show w.heap.size ≤ w.heap.size + 2; omega) _, by rw [setCell_block _ _ _ _ _ (by show ¬ w.heap.size + 2 = w.heap.size; omega)]; exact hSc1.2.1, ⟨_, hrow1.set i _, by rw [List.length_set]; exact hll⟩, hSc1.2.2.2.other _ i _ (by omega)⟩
        refine oneH 9 rfl rfl (by kernel_rfl) fun K hK => ?_
        refine wpH_skip (w' := Wc1.setCell ⟨w.heap.size + 2, i, none⟩ (.int .u64 ((bf i : Nat) : Int))) rfl (runStore _ _ _ rfl _ _ rfl rfl (stWord Wc1 _ i _ _ hcl hfz)) ?_
        refine hK _ _ hS2 fun _ => ?_
        clear hK K
        refine wpAnyH_done (by kernel_rfl) ?_ _
        have H2 := Lib.hid hS2
        have HR2 := Lib.hid (hrow1.set i (bf i))
        clear hS2 hcl hfz hrow1 hSc1 hWc1 hS hrow hform hbel hres hbi
        generalize Wc1.setCell ⟨w.heap.size + 2, i, none⟩ (.int .u64 ((bf i : Nat) : Int)) = W9 at *
        go_wp2
        go_round
        case rel => exact ⟨i + 1, l.set i (bf i), by omega, by go_num, by rw [fillN, ← HL.out], HR2.out, H2.out.2.2.2, H2.out.2.1, H2.out.1⟩
        case measure => simp [intOf]; omega
end Go.Proofs.YtlbpodddokhmaaaGreat.Sha64
/-
  SHA-2's words of 64 bits: the walk of schedule.
  Conditions: a block.
-/
namespace Go.Proofs.YtlbpodddokhmaaaGreat.Sha64
open Go.ChangeShapes Go.WideShapes Go.ChangeAt Go.RowKit Go.Deep Go.Proofs.YtlbpodddokhmaaaGreat.Bw
open Go.Proofs.YtlbpodddokhmaaaGreat.Sha (roundsL firstsL GlobAt zeros zeros_length made_zeros)
def byteF (l : List UInt8) (n : Nat) : Nat := (l.getD n 0).toNat
theorem byteF_lt (l : List UInt8) (n : Nat) : byteF l n < 256 := (l.getD n 0).toNat_lt
/-- A word of a block, behind j bytes. -/
def wb (b : List UInt8) (i : Nat) : Nat → Nat
  | 0 => 0
  | j + 1 => wb b i j * 256 + byteF b (i * 8 + j)
theorem wb_lt (b : List UInt8) (i : Nat) : ∀ j, wb b i j < 256 ^ j
  | 0 => by unfold wb; omega
  | j + 1 => by
    have h1 := wb_lt b i j
    have h2 := byteF_lt b (i * 8 + j)
    rw [wb, Nat.pow_succ]
    omega
/-- A block's words. -/
def nextS (l : List Nat) (n : Nat) : Nat := (((smallS (l.getD (n - 2) 0) 19 61 6 + l.getD (n - 7) 0) % 18446744073709551616 + smallS (l.getD (n - 15) 0) 1 8 7) % 18446744073709551616 + l.getD (n - 16) 0) % 18446744073709551616
def schedL (b : List UInt8) : Nat → List Nat
  | 0 => []
  | n + 1 => schedL b n ++ [if n < 16 then wb b n 8 else nextS (schedL b n) n]
theorem schedL_length (b : List UInt8) : ∀ n, (schedL b n).length = n
  | 0 => rfl
  | n + 1 => by rw [schedL, List.length_append, schedL_length b n]; rfl
theorem nextS_lt (l : List Nat) (n : Nat) : nextS l n < 18446744073709551616 := Nat.mod_lt _ (by omega)
theorem schedL_lt (b : List UInt8) : ∀ n j, (schedL b n).getD j 0 < 18446744073709551616
  | 0, j => by simp [schedL]
  | n + 1, j => by
    rw [schedL]
    by_cases hj : j < n
    · have e : (schedL b n ++ [if n < 16 then wb b n 8 else nextS (schedL b n) n]).getD j 0 = (schedL b n).getD j 0 := by
        simp only [List.getD]; rw [List.getElem?_append_left (by rw [schedL_length]; exact hj)]
      rw [e]; exact schedL_lt b n j
    · by_cases hjn : j = n
      · subst hjn
        have e : (schedL b j ++ [if j < 16 then wb b j 8 else nextS (schedL b j) j]).getD j 0 = if j < 16 then wb b j 8 else nextS (schedL b j) j := by
          simp only [List.getD]; rw [List.getElem?_append_right (by rw [schedL_length]; omega), schedL_length, Nat.sub_self]; rfl
        rw [e]
        split
        · exact wb_lt b j 8
        · exact nextS_lt _ _
      · rw [List.getD, List.getElem?_eq_none (by rw [List.length_append, schedL_length]; simp; omega)]; simp
theorem set_mid (a : List Nat) (n v : Nat) : (a ++ zeros (n + 1)).set a.length v = (a ++ [v]) ++ zeros n := by
  rw [List.set_append_right _ _ (Nat.le_refl _), Nat.sub_self, List.append_assoc]
  rfl
theorem small0_any (x : Nat) (w : World) (hx : x < 18446744073709551616) : Calls Tryz.prog 149 #[.int .u64 x, .agg (nums .i64 [1, 8, 7]), .agg #[.int .i64 64, .int .i64 80, .int .i64 28, .int .i64 34, .int .i64 39, .int .i64 14, .int .i64 18, .int .i64 41, .int .i64 1, .int .i64 8, .int .i64 7, .int .i64 19, .int .i64 61, .int .i64 6]] w fun e w' => e = .returned (.int .u64 ((smallS x 1 8 7 : Nat) : Int)) ∧ Below w.heap.size w w' := small_any x 1 8 7 w hx (by omega) (by omega) (by omega) (by omega) (by omega)
theorem small1_any (x : Nat) (w : World) (hx : x < 18446744073709551616) : Calls Tryz.prog 149 #[.int .u64 x, .agg (nums .i64 [19, 61, 6]), .agg #[.int .i64 64, .int .i64 80, .int .i64 28, .int .i64 34, .int .i64 39, .int .i64 14, .int .i64 18, .int .i64 41, .int .i64 1, .int .i64 8, .int .i64 7, .int .i64 19, .int .i64 61, .int .i64 6]] w fun e w' => e = .returned (.int .u64 ((smallS x 19 61 6 : Nat) : Int)) ∧ Below w.heap.size w w' := small_any x 19 61 6 w hx (by omega) (by omega) (by omega) (by omega) (by omega)
theorem runSubI {o : Oper} {a : Act} {w : World} (x y : Operand) (tp : TypeId) (ho : o.op = .binOp .sub 3 x y tp) (i c : Nat) (hx : a.eval x = .int .i64 (i : Int)) (hy : a.eval y = .int .i64 (c : Int)) (hc : c ≤ i) (hi : i ≤ 1000) :
    (execOp a.eval o).run Tryz.prog w = .ok (.value (.int .i64 ((i - c : Nat) : Int))) w := by
  unfold execOp
  simp only [ho, hx, hy]
  have e : ((i - c : Nat) : Int) = (i : Int) - (c : Int) := by omega
  have h1 : (0 : Int) ≤ (i : Int) - (c : Int) := by omega
  have h2 : (i : Int) - (c : Int) ≤ 1000 := by omega
  rw [e]
  go_simp
  simp [IntKind.wrap, IntKind.bits, IntKind.signed]
  omega
theorem runAddW {o : Oper} {a : Act} {w : World} (x y : Operand) (tp : TypeId) (ho : o.op = .binOp .add 76 x y tp) (m n : Nat) (hx : a.eval x = .int .u64 (m : Int)) (hy : a.eval y = .int .u64 (n : Int)) :
    (execOp a.eval o).run Tryz.prog w = .ok (.value (.int .u64 (((m + n) % 18446744073709551616 : Nat) : Int))) w := by
  unfold execOp
  simp only [ho, hx, hy]
  go_simp
  simp [IntKind.wrap, IntKind.bits, IntKind.signed]
theorem ldT (W : World) (p : Addr) (v : Value) (h : W.cell? p = some v) : (Instr.loadAt 76 (.pointer (some p))).run Tryz.prog W = .ok v W := by
  go_simp
/-- What a region of schedule keeps. -/
def SchS (w : World) (l : List Nat) (i : Nat) (W : World) : Prop := Below w.heap.size w W ∧ W.heap[w.heap.size]? = some (.cells #[.int .i64 64, .int .i64 80, .int .i64 28, .int .i64 34, .int .i64 39, .int .i64 14, .int .i64 18, .int .i64 41, .int .i64 1, .int .i64 8, .int .i64 7, .int .i64 19, .int .i64 61, .int .i64 6] 166 (0, 0)) ∧ ∃ v, NumsAt W (w.heap.size + 1) 76 .u64 (l.set i v)
theorem SchS.keep {w : World} {l : List Nat} {i : Nat} (W W1 : World) (h : SchS w l i W) (hb : Below W.heap.size W W1) : SchS w l i W1 := by
  obtain ⟨a, b, v, c⟩ := h
  exact ⟨a.trans (hb.mono a.size), below_heap hb (lt_of_heap b) b, v, c.below hb⟩
theorem SchS.cell {w : World} {l : List Nat} {i : Nat} {W : World} (h : SchS w l i W) (j : Nat) (hj : j < l.length) (hji : j ≠ i) : W.cell? ⟨w.heap.size + 1, j, none⟩ = some (.int .u64 ((l.getD j 0 : Nat) : Int)) := by
  obtain ⟨_, _, v, c⟩ := h
  have := c.cell j (by rw [List.length_set]; exact hj)
  rw [this]
  simp only [List.getD, List.getElem?_set_ne (Ne.symm hji)]
theorem runThree {o : Oper} {a : Act} {W : World} {b : Nat} (off : Nat) (l : List Nat) (x : Operand) (ho : o.op = .load 164 x) (hx : a.eval x = .pointer (some ⟨b, off, none⟩)) (h : W.heap[b]? = some (.cells #[.int .i64 64, .int .i64 80, .int .i64 28, .int .i64 34, .int .i64 39, .int .i64 14, .int .i64 18, .int .i64 41, .int .i64 1, .int .i64 8, .int .i64 7, .int .i64 19, .int .i64 61, .int .i64 6] 166 (0, 0))) (hl : l.length = 3)
    (hc : ∀ j, j < 3 → (#[.int .i64 64, .int .i64 80, .int .i64 28, .int .i64 34, .int .i64 39, .int .i64 14, .int .i64 18, .int .i64 41, .int .i64 1, .int .i64 8, .int .i64 7, .int .i64 19, .int .i64 61, .int .i64 6] : Array Value)[off + j]? = some (.int .i64 ((l.getD j 0 : Nat) : Int))) : (execOp a.eval o).run Tryz.prog W = .ok (.value (.agg (nums .i64 l))) W :=
  run_load_part 164 x ho b off hx .i64 l (fun j hj => by rw [cell_of_row _ b (off + j) _ _ _ h]; exact hc j (by omega)) _ Tryz.underlying164 rfl (by rw [hl]; kernel_rfl)
set_option maxHeartbeats 1600000 in
set_option maxRecDepth 100000 in
theorem schedule_any (b : List UInt8) (w : World) (hb : b.length = 16 * 8) : Calls Tryz.prog 143 #[.string (B b), FV] w fun e w' => ∃ r, e = .returned (.slice (some ⟨r, 0, none⟩) 80 80) ∧ NumsAt w' r 76 .u64 (schedL b 80) ∧ w.heap.size ≤ r ∧ Below w.heap.size w w' := by
  have hFV : FV = .agg #[.int .i64 64, .int .i64 80, .int .i64 28, .int .i64 34, .int .i64 39, .int .i64 14, .int .i64 18, .int .i64 41, .int .i64 1, .int .i64 8, .int .i64 7, .int .i64 19, .int .i64 61, .int .i64 6] := rfl
  rw [hFV]
  have hmk : (Instr.makeSlice 175 (.int .i64 80) (.int .i64 80)).run Tryz.prog (w.alloc (.cells #[.int .i64 64, .int .i64 80, .int .i64 28, .int .i64 34, .int .i64 39, .int .i64 14, .int .i64 18, .int .i64 41, .int .i64 1, .int .i64 8, .int .i64 7, .int .i64 19, .int .i64 61, .int .i64 6] 166)) = .ok (.slice (some ⟨w.heap.size + 1, 0, none⟩) 80 80) ((w.alloc (.cells #[.int .i64 64, .int .i64 80, .int .i64 28, .int .i64 34, .int .i64 39, .int .i64 14, .int .i64 18, .int .i64 41, .int .i64 1, .int .i64 8, .int .i64 7, .int .i64 19, .int .i64 61, .int .i64 6] 166)).alloc (.cells (nums .u64 (zeros 80)) 76)) := by
    have h := run_make_row' (P := Tryz.prog) 175 76 (.int .u64 0) 8 Tryz.underlying175 infoW rfl .i64 .i64 80 (by omega) (by omega) (w.alloc (.cells #[.int .i64 64, .int .i64 80, .int .i64 28, .int .i64 34, .int .i64 39, .int .i64 14, .int .i64 18, .int .i64 41, .int .i64 1, .int .i64 8, .int .i64 7, .int .i64 19, .int .i64 61, .int .i64 6] 166))
    rw [made_zeros, show (w.alloc (.cells #[.int .i64 64, .int .i64 80, .int .i64 28, .int .i64 34, .int .i64 39, .int .i64 14, .int .i64 18, .int .i64 41, .int .i64 1, .int .i64 8, .int .i64 7, .int .i64 19, .int .i64 61, .int .i64 6] 166)).heap.size = w.heap.size + 1 by simp] at h
    exact h
  go_enter Tryz.func143, Tryz.ntmps143
  go_wp2
  have hform : ((w.alloc (.cells #[.int .i64 64, .int .i64 80, .int .i64 28, .int .i64 34, .int .i64 39, .int .i64 14, .int .i64 18, .int .i64 41, .int .i64 1, .int .i64 8, .int .i64 7, .int .i64 19, .int .i64 61, .int .i64 6] 166)).alloc (.cells (nums .u64 (zeros 80)) 76)).heap[w.heap.size]? = some (.cells #[.int .i64 64, .int .i64 80, .int .i64 28, .int .i64 34, .int .i64 39, .int .i64 14, .int .i64 18, .int .i64 41, .int .i64 1, .int .i64 8, .int .i64 7, .int .i64 19, .int .i64 61, .int .i64 6] 166 (0, 0)) := heap_under (heap_alloc_last w _)
  have hrow : NumsAt ((w.alloc (.cells #[.int .i64 64, .int .i64 80, .int .i64 28, .int .i64 34, .int .i64 39, .int .i64 14, .int .i64 18, .int .i64 41, .int .i64 1, .int .i64 8, .int .i64 7, .int .i64 19, .int .i64 61, .int .i64 6] 166)).alloc (.cells (nums .u64 (zeros 80)) 76)) (w.heap.size + 1) 76 .u64 (zeros 80) := heap_at (by simp)
  have hbel : Below w.heap.size w ((w.alloc (.cells #[.int .i64 64, .int .i64 80, .int .i64 28, .int .i64 34, .int .i64 39, .int .i64 14, .int .i64 18, .int .i64 41, .int .i64 1, .int .i64 8, .int .i64 7, .int .i64 19, .int .i64 61, .int .i64 6] 166)).alloc (.cells (nums .u64 (zeros 80)) 76)) := by ((repeat' (with_reducible first | exact Below.refl _ _ | assumption | refine Below.drew ?_ | refine below_drewN ?_ _ | refine Below.setCell ?_ ?_ _ | refine Below.alloc ?_ ?_ _ | refine Below.ext ?_ ?_ _ | refine Below.trans ?_ (Below.mono ‹_› ?_))) <;> first | omega | (simp; done) | (simp; omega))
  clear hmk
  generalize (w.alloc (.cells #[.int .i64 64, .int .i64 80, .int .i64 28, .int .i64 34, .int .i64 39, .int .i64 14, .int .i64 18, .int .i64 41, .int .i64 1, .int .i64 8, .int .i64 7, .int .i64 19, .int .i64 61, .int .i64 6] 166)).alloc (.cells (nums .u64 (zeros 80)) 76) = W1 at *
  go_loopw [18] (fun s18 wr => ∃ (i : Nat) (l : List Nat), i ≤ 80 ∧ s18 = .int .i64 i ∧ l = schedL b i ++ zeros (80 - i) ∧ NumsAt wr (w.heap.size + 1) 76 .u64 l ∧ wr.heap[w.heap.size]? = some (.cells #[.int .i64 64, .int .i64 80, .int .i64 28, .int .i64 34, .int .i64 39, .int .i64 14, .int .i64 18, .int .i64 41, .int .i64 1, .int .i64 8, .int .i64 7, .int .i64 19, .int .i64 61, .int .i64 6] 166 (0, 0)) ∧ Below w.heap.size w wr) (fun s _ => 80 - (intOf s).toNat)
  case atStart => exact ⟨0, zeros 80, by omega, rfl, by simp [schedL], hrow, hform, hbel⟩
  case round =>
    clear hrow hform hbel W1
    obtain ⟨i, l, hi, rfl, hl, hrow, hform, hbel⟩ := hrel
    have hsl := schedL_length b i
    have hll : l.length = 80 := by rw [hl, List.length_append, hsl, zeros_length]; omega
    by_cases hend : i = 80
    · have hlt : ¬ (i : Int) < 80 := by omega
      have hl0 : l = schedL b 80 := by rw [hl, hend, Nat.sub_self]; simp [zeros]
      rw [hl0] at hrow
      clear hend hl0 hl hll hsl
      go_wp2
      go_ret
      exact ⟨_, rfl, hrow, by omega, hbel⟩
    · have hlt : (i : Int) < 80 := by omega
      have hi2 : i < 80 := by omega
      have hold : ∀ j, j < i → l.getD j 0 = (schedL b i).getD j 0 := fun j hj => by
        rw [hl]; simp only [List.getD]; rw [List.getElem?_append_left (by rw [hsl]; exact hj)]
      have hset : ∀ v, l.set i v = (schedL b i ++ [v]) ++ zeros (80 - (i + 1)) := fun v => by
        rw [hl, show 80 - i = (80 - (i + 1)) + 1 by omega]
        have := set_mid (schedL b i) (80 - (i + 1)) v
        rw [hsl] at this
        exact this
      have hnew : l.getD i 0 = 0 := by
        rw [hl]; simp only [List.getD]; rw [List.getElem?_append_right (by rw [hsl]; exact Nat.le_refl _), hsl, Nat.sub_self, show 80 - i = (80 - (i + 1)) + 1 by omega]; rfl
      have HSET := Lib.hid hset
      have HNEXT := Lib.hid (show schedL b (i + 1) = schedL b i ++ [if i < 16 then wb b i 8 else nextS (schedL b i) i] from rfl)
      by_cases h16 : i < 16
      · have h16i : (i : Int) < 16 := by omega
        rw [if_pos h16] at HNEXT
        obtain ⟨sg, hsg⟩ : ∃ sg, sg = (b.drop (i * 8)).take ((i + 1) * 8 - i * 8) := ⟨_, rfl⟩
        have hsgl : sg.length = 8 := by rw [hsg, List.length_take, List.length_drop]; omega
        have hsgb : ∀ x, x < 8 → byteF sg x = byteF b (i * 8 + x) := fun x hx => by
          rw [hsg]; simp only [byteF, List.getD, List.getElem?_take, List.getElem?_drop]; rw [if_pos (by omega)]
        have hseg := hsg.symm
        obtain ⟨cap, w1, hconv, hcap, hb1, hsz1, hcell1, -⟩ := bytes_conv (P := Tryz.prog) wr 9 73 5 sg Tryz.underlying9 Tryz.underlying73 Tryz.underlying5
        rw [hsgl] at hconv hcap
        have hseg1 : ∀ x, x < 8 → w1.cell? ⟨wr.heap.size, x, none⟩ = some (.int .u8 ((byteF b (i * 8 + x) : Nat) : Int)) := fun x hx => by
          rw [hcell1 x (by omega), ← hsgb x hx]
          simp [byteF, List.getD, show x < sg.length by omega]
        have hrow1 := hrow.below hb1
        have hform1 := below_heap hb1 (lt_of_heap hform) hform
        have hbel1 := hbel.trans (hb1.mono hbel.size)
        have htl := hrow.lt
        have hbig : (i : Int) * 8 + 8 ≤ (b.length : Int) := by omega
        have HSEG1 := Lib.hid hseg1
        have HHOLD := Lib.hid hold
        have HLL := Lib.hid hll
        have HHB := Lib.hid hb
        have hi16 : ((i : Int) + 1) * 8 ≤ (b.length : Int) := by omega
        clear hold hset hcell1 hseg1 hsg hsgb hl hrow hform hbel hb1 hb
        have hnew0 : l.set i (wb b i 0) = l := Sha.set_zero (by omega) hnew
        go_wp2_with fail
        have hsb : w.heap.size + 1 < wr.heap.size := htl
        generalize hsbe : wr.heap.size = sb at *
        clear hsbe hconv
        generalize w1 = W1 at *
        go_loopw [34] (fun s34 wi => ∃ (j : Nat), j ≤ 8 ∧ s34 = .int .i64 j ∧ NumsAt wi (w.heap.size + 1) 76 .u64 (l.set i (wb b i j)) ∧ wi.heap[w.heap.size]? = some (.cells #[.int .i64 64, .int .i64 80, .int .i64 28, .int .i64 34, .int .i64 39, .int .i64 14, .int .i64 18, .int .i64 41, .int .i64 1, .int .i64 8, .int .i64 7, .int .i64 19, .int .i64 61, .int .i64 6] 166 (0, 0)) ∧ Below w.heap.size w wi ∧ (∀ x, x < 8 → wi.cell? ⟨sb, x, none⟩ = some (.int .u8 ((byteF b (i * 8 + x) : Nat) : Int)))) (fun s _ => 8 - (intOf s).toNat)
        case atStart => exact ⟨0, by omega, rfl, by rw [hnew0]; exact hrow1, hform1, hbel1, HSEG1.out⟩
        case round =>
          clear hrow1 hform1 hbel1 HSEG1 hnew0 hseg
          obtain ⟨j, hj, rfl, hrow, hform, hbel, hseg⟩ := hrel
          have hwb := wb_lt b i j
          by_cases hjB : j = 8
          · have hjlt : ¬ (j : Int) < 8 := by omega
            rw [hjB] at hrow
            clear hjB hseg hwb
            go_wp2
            go_round
            case rel => exact ⟨i + 1, l.set i (wb b i 8), by omega, by go_num, by rw [HSET.out, HNEXT.out], hrow, hform, hbel⟩
            case measure => simp [intOf]; omega
          · have hjlt : (j : Int) < 8 := by omega
            have hjl : j < 8 := by omega
            have hc1 := hseg j hjl
            have hc2 := hrow.cellv i (wb b i j) (by rw [List.length_set, HLL.out]; exact hi2) (by rw [getD_set _ _ _ _ (by rw [HLL.out]; exact hi2), if_pos rfl])
            have hfz := hrow.frozen i
            have hbl := hrow.lt
            have hby := byteF_lt b (i * 8 + j)
            have HWB := Lib.hid (show wb b i (j + 1) = wb b i j * 256 + byteF b (i * 8 + j) from rfl)
            have hxs : wb b i j * 256 < 18446744073709551616 := by
              have h1 : 256 ^ j * 256 ≤ 256 ^ 8 := by rw [← Nat.pow_succ]; exact Nat.pow_le_pow_right (by omega) (by omega)
              have h2 : (256 : Nat) ^ 8 = 18446744073709551616 := by decide
              have h3 : wb b i j * 256 < 256 ^ j * 256 := Nat.mul_lt_mul_of_pos_right hwb (by omega)
              omega
            generalize wb b i j = x at *
            generalize byteF b (i * 8 + j) = c at *
            have hor : bits .or .u64 ((x : Int) * 256 % 18446744073709551616) (c : Int) = ((x * 256 + c : Nat) : Int) := by
              rw [show (x : Int) * 256 % 18446744073709551616 = ((x * 256 : Nat) : Int) by omega, or64 _ _ hxs (by omega)]
              have := Nat.two_pow_add_eq_or_of_lt (i := 8) (b := c) hby x
              rw [Nat.mul_comm x 256, ← this]
            have hor2 : bits .or .u64 (IntKind.u64.wrap ((x : Int) * 256)) (c : Int) = ((x * 256 + c : Nat) : Int) := by
              rw [← hor, show (x : Int) * 256 = ((x * 256 : Nat) : Int) by omega, wrap64u _ hxs]
              congr 1
              omega
            have HOR := Lib.hid hor
            have HOR2 := Lib.hid hor2
            clear hor2
            have HROW := Lib.hid hrow
            have HSEG := Lib.hid hseg
            clear hor hxs hwb hrow hseg
            go_wp2
            go_round
            case rel =>
              refine ⟨j + 1, by omega, by go_num, ?_, ?_, ?_, fun y hy => ?_⟩
              · first
                  | rw [HOR.out]
                  | rw [HOR2.out]
                rw [HWB.out]
                have := HROW.out.set i (x * 256 + c)
                rwa [List.set_set] at this
              · rw [setCell_block _ _ _ _ _ (by show ¬ w.heap.size + 1 = w.heap.size; omega)]; exact hform
              · exact Below.setCell hbel (by show w.heap.size ≤ w.heap.size + 1; omega) _
              · rw [World.cell?_of_block (setCell_block _ _ _ _ _ (by show ¬ w.heap.size + 1 = sb; omega))]
                exact HSEG.out y hy
            case measure => simp [intOf]; omega
      · have h16i : ¬ (i : Int) < 16 := by omega
        have hNX : nextS (schedL b i) i = (((smallS (l.getD (i - 2) 0) 19 61 6 + l.getD (i - 7) 0) % 18446744073709551616 + smallS (l.getD (i - 15) 0) 1 8 7) % 18446744073709551616 + l.getD (i - 16) 0) % 18446744073709551616 := by
          rw [hold _ (by omega), hold _ (by omega), hold _ (by omega), hold _ (by omega)]; rfl
        have hb2 : l.getD (i - 2) 0 < 18446744073709551616 := by rw [hold _ (by omega)]; exact schedL_lt b i _
        have hb15 : l.getD (i - 15) 0 < 18446744073709551616 := by rw [hold _ (by omega)]; exact schedL_lt b i _
        rw [if_neg h16] at HNEXT
        have HNX := Lib.hid hNX
        go_upto_region 12 with fail
        have hself : l.set i 0 = l := by
          apply Sha.set_zero (by omega) hnew
        have hS : SchS w l i wr.drew := ⟨hbel.drew, hform, 0, by rw [hself]; exact hrow.drew⟩
        have hcl := hrow.cellv i 0 (by omega) hnew
        clear hold hset hnew hNX
        refine wp_region_held (S := fun W => SchS w l i W) (by kernel_rfl) ?_
        change wpAnyH _ _ _ _ _ _ _ _ wr.drew
        refine takeH 0 rfl rfl (some 50) rfl (.slice (some ⟨w.heap.size + 1, 0, none⟩) 80 80) (by kernel_rfl) (by kernel_rfl) (by kernel_rfl) (fun _ _ _ h => h) (fun _ _ => rfl) hS ?_
        simp only [Act.put, List.setIfInBounds_toArray, List.set_cons_zero, List.set_cons_succ]
        refine takeH 1 rfl rfl (some 51) rfl (.int .i64 (i : Int)) (by kernel_rfl) (by kernel_rfl) (by kernel_rfl) (fun _ _ _ h => h) (fun _ _ => rfl) hS ?_
        simp only [Act.put, List.setIfInBounds_toArray, List.set_cons_zero, List.set_cons_succ]
        refine takeH 2 rfl rfl (some 52) rfl (.slice (some ⟨w.heap.size + 1, 0, none⟩) 80 80) (by kernel_rfl) (by kernel_rfl) (by kernel_rfl) (fun _ _ _ h => h) (fun _ _ => rfl) hS ?_
        simp only [Act.put, List.setIfInBounds_toArray, List.set_cons_zero, List.set_cons_succ]
        refine takeH 3 rfl rfl (some 53) rfl (.int .i64 (i : Int)) (by kernel_rfl) (by kernel_rfl) (by kernel_rfl) (fun _ _ _ h => h) (fun _ _ => rfl) hS ?_
        simp only [Act.put, List.setIfInBounds_toArray, List.set_cons_zero, List.set_cons_succ]
        refine takeH 4 rfl rfl (some 54) rfl (.int .i64 ((i - 2 : Nat) : Int)) (by kernel_rfl) (by kernel_rfl) (by kernel_rfl) (fun _ _ _ h => h) (fun w1 _ => runSubI _ _ _ rfl i 2 rfl rfl (by omega) (by omega)) hS ?_
        simp only [Act.put, List.setIfInBounds_toArray, List.set_cons_zero, List.set_cons_succ]
        refine takeH 5 rfl rfl (some 55) rfl (.pointer (some ⟨w.heap.size + 1, i - 2, none⟩)) (by kernel_rfl) (by kernel_rfl) (by kernel_rfl) (fun _ _ _ h => h) (fun w1 _ => runAt _ _ _ rfl _ _ _ rfl rfl (atRow w1 _ (i - 2) _ _ (by omega))) hS ?_
        simp only [Act.put, List.setIfInBounds_toArray, List.set_cons_zero, List.set_cons_succ]
        refine takeH 6 rfl rfl (some 56) rfl (.int .u64 ((l.getD (i - 2) 0 : Nat) : Int)) (by kernel_rfl) (by kernel_rfl) (by kernel_rfl) (fun _ _ _ h => h) (fun w1 h1 => runLoad _ _ rfl _ _ rfl (ldT w1 _ _ (h1.cell (i - 2) (by omega) (by omega)))) hS ?_
        simp only [Act.put, List.setIfInBounds_toArray, List.set_cons_zero, List.set_cons_succ]
        refine takeH 7 rfl rfl (some 57) rfl (.pointer (some ⟨w.heap.size, 11, none⟩)) (by kernel_rfl) (by kernel_rfl) (by kernel_rfl) (fun _ _ _ h => h) (fun _ _ => by kernel_rfl) hS ?_
        simp only [Act.put, List.setIfInBounds_toArray, List.set_cons_zero, List.set_cons_succ]
        refine takeH 8 rfl rfl (some 58) rfl (.agg (nums .i64 [19, 61, 6])) (by kernel_rfl) (by kernel_rfl) (by kernel_rfl) (fun _ _ _ h => h) (fun w1 h1 => runThree 11 [19, 61, 6] _ rfl rfl h1.2.1 rfl (fun j hj => match j, hj with | 0, _ => rfl | 1, _ => rfl | 2, _ => rfl)) hS ?_
        simp only [Act.put, List.setIfInBounds_toArray, List.set_cons_zero, List.set_cons_succ]
        refine takeH 9 rfl rfl (some 59) rfl (.agg #[.int .i64 64, .int .i64 80, .int .i64 28, .int .i64 34, .int .i64 39, .int .i64 14, .int .i64 18, .int .i64 41, .int .i64 1, .int .i64 8, .int .i64 7, .int .i64 19, .int .i64 61, .int .i64 6]) (by kernel_rfl) (by kernel_rfl) (by kernel_rfl) (fun _ _ _ h => h) (fun w1 h1 => runForm _ rfl rfl h1.2.1) hS ?_
        simp only [Act.put, List.setIfInBounds_toArray, List.set_cons_zero, List.set_cons_succ]
        refine takeH 11 rfl rfl (some 61) rfl (.slice (some ⟨w.heap.size + 1, 0, none⟩) 80 80) (by kernel_rfl) (by kernel_rfl) (by kernel_rfl) (fun _ _ _ h => h) (fun _ _ => rfl) hS ?_
        simp only [Act.put, List.setIfInBounds_toArray, List.set_cons_zero, List.set_cons_succ]
        refine takeH 12 rfl rfl (some 62) rfl (.int .i64 (i : Int)) (by kernel_rfl) (by kernel_rfl) (by kernel_rfl) (fun _ _ _ h => h) (fun _ _ => rfl) hS ?_
        simp only [Act.put, List.setIfInBounds_toArray, List.set_cons_zero, List.set_cons_succ]
        refine takeH 13 rfl rfl (some 63) rfl (.int .i64 ((i - 7 : Nat) : Int)) (by kernel_rfl) (by kernel_rfl) (by kernel_rfl) (fun _ _ _ h => h) (fun w1 _ => runSubI _ _ _ rfl i 7 rfl rfl (by omega) (by omega)) hS ?_
        simp only [Act.put, List.setIfInBounds_toArray, List.set_cons_zero, List.set_cons_succ]
        refine takeH 14 rfl rfl (some 64) rfl (.pointer (some ⟨w.heap.size + 1, i - 7, none⟩)) (by kernel_rfl) (by kernel_rfl) (by kernel_rfl) (fun _ _ _ h => h) (fun w1 _ => runAt _ _ _ rfl _ _ _ rfl rfl (atRow w1 _ (i - 7) _ _ (by omega))) hS ?_
        simp only [Act.put, List.setIfInBounds_toArray, List.set_cons_zero, List.set_cons_succ]
        refine takeH 15 rfl rfl (some 65) rfl (.int .u64 ((l.getD (i - 7) 0 : Nat) : Int)) (by kernel_rfl) (by kernel_rfl) (by kernel_rfl) (fun _ _ _ h => h) (fun w1 h1 => runLoad _ _ rfl _ _ rfl (ldT w1 _ _ (h1.cell (i - 7) (by omega) (by omega)))) hS ?_
        simp only [Act.put, List.setIfInBounds_toArray, List.set_cons_zero, List.set_cons_succ]
        refine takeH 17 rfl rfl (some 67) rfl (.slice (some ⟨w.heap.size + 1, 0, none⟩) 80 80) (by kernel_rfl) (by kernel_rfl) (by kernel_rfl) (fun _ _ _ h => h) (fun _ _ => rfl) hS ?_
        simp only [Act.put, List.setIfInBounds_toArray, List.set_cons_zero, List.set_cons_succ]
        refine takeH 18 rfl rfl (some 68) rfl (.int .i64 (i : Int)) (by kernel_rfl) (by kernel_rfl) (by kernel_rfl) (fun _ _ _ h => h) (fun _ _ => rfl) hS ?_
        simp only [Act.put, List.setIfInBounds_toArray, List.set_cons_zero, List.set_cons_succ]
        refine takeH 19 rfl rfl (some 69) rfl (.int .i64 ((i - 15 : Nat) : Int)) (by kernel_rfl) (by kernel_rfl) (by kernel_rfl) (fun _ _ _ h => h) (fun w1 _ => runSubI _ _ _ rfl i 15 rfl rfl (by omega) (by omega)) hS ?_
        simp only [Act.put, List.setIfInBounds_toArray, List.set_cons_zero, List.set_cons_succ]
        refine takeH 20 rfl rfl (some 70) rfl (.pointer (some ⟨w.heap.size + 1, i - 15, none⟩)) (by kernel_rfl) (by kernel_rfl) (by kernel_rfl) (fun _ _ _ h => h) (fun w1 _ => runAt _ _ _ rfl _ _ _ rfl rfl (atRow w1 _ (i - 15) _ _ (by omega))) hS ?_
        simp only [Act.put, List.setIfInBounds_toArray, List.set_cons_zero, List.set_cons_succ]
        refine takeH 21 rfl rfl (some 71) rfl (.int .u64 ((l.getD (i - 15) 0 : Nat) : Int)) (by kernel_rfl) (by kernel_rfl) (by kernel_rfl) (fun _ _ _ h => h) (fun w1 h1 => runLoad _ _ rfl _ _ rfl (ldT w1 _ _ (h1.cell (i - 15) (by omega) (by omega)))) hS ?_
        simp only [Act.put, List.setIfInBounds_toArray, List.set_cons_zero, List.set_cons_succ]
        refine takeH 22 rfl rfl (some 72) rfl (.pointer (some ⟨w.heap.size, 8, none⟩)) (by kernel_rfl) (by kernel_rfl) (by kernel_rfl) (fun _ _ _ h => h) (fun _ _ => by kernel_rfl) hS ?_
        simp only [Act.put, List.setIfInBounds_toArray, List.set_cons_zero, List.set_cons_succ]
        refine takeH 23 rfl rfl (some 73) rfl (.agg (nums .i64 [1, 8, 7])) (by kernel_rfl) (by kernel_rfl) (by kernel_rfl) (fun _ _ _ h => h) (fun w1 h1 => runThree 8 [1, 8, 7] _ rfl rfl h1.2.1 rfl (fun j hj => match j, hj with | 0, _ => rfl | 1, _ => rfl | 2, _ => rfl)) hS ?_
        simp only [Act.put, List.setIfInBounds_toArray, List.set_cons_zero, List.set_cons_succ]
        refine takeH 24 rfl rfl (some 74) rfl (.agg #[.int .i64 64, .int .i64 80, .int .i64 28, .int .i64 34, .int .i64 39, .int .i64 14, .int .i64 18, .int .i64 41, .int .i64 1, .int .i64 8, .int .i64 7, .int .i64 19, .int .i64 61, .int .i64 6]) (by kernel_rfl) (by kernel_rfl) (by kernel_rfl) (fun _ _ _ h => h) (fun w1 h1 => runForm _ rfl rfl h1.2.1) hS ?_
        simp only [Act.put, List.setIfInBounds_toArray, List.set_cons_zero, List.set_cons_succ]
        refine takeH 27 rfl rfl (some 77) rfl (.slice (some ⟨w.heap.size + 1, 0, none⟩) 80 80) (by kernel_rfl) (by kernel_rfl) (by kernel_rfl) (fun _ _ _ h => h) (fun _ _ => rfl) hS ?_
        simp only [Act.put, List.setIfInBounds_toArray, List.set_cons_zero, List.set_cons_succ]
        refine takeH 28 rfl rfl (some 78) rfl (.int .i64 (i : Int)) (by kernel_rfl) (by kernel_rfl) (by kernel_rfl) (fun _ _ _ h => h) (fun _ _ => rfl) hS ?_
        simp only [Act.put, List.setIfInBounds_toArray, List.set_cons_zero, List.set_cons_succ]
        refine takeH 29 rfl rfl (some 79) rfl (.int .i64 ((i - 16 : Nat) : Int)) (by kernel_rfl) (by kernel_rfl) (by kernel_rfl) (fun _ _ _ h => h) (fun w1 _ => runSubI _ _ _ rfl i 16 rfl rfl (by omega) (by omega)) hS ?_
        simp only [Act.put, List.setIfInBounds_toArray, List.set_cons_zero, List.set_cons_succ]
        refine takeH 30 rfl rfl (some 80) rfl (.pointer (some ⟨w.heap.size + 1, i - 16, none⟩)) (by kernel_rfl) (by kernel_rfl) (by kernel_rfl) (fun _ _ _ h => h) (fun w1 _ => runAt _ _ _ rfl _ _ _ rfl rfl (atRow w1 _ (i - 16) _ _ (by omega))) hS ?_
        simp only [Act.put, List.setIfInBounds_toArray, List.set_cons_zero, List.set_cons_succ]
        refine takeH 31 rfl rfl (some 81) rfl (.int .u64 ((l.getD (i - 16) 0 : Nat) : Int)) (by kernel_rfl) (by kernel_rfl) (by kernel_rfl) (fun _ _ _ h => h) (fun w1 h1 => runLoad _ _ rfl _ _ rfl (ldT w1 _ _ (h1.cell (i - 16) (by omega) (by omega)))) hS ?_
        simp only [Act.put, List.setIfInBounds_toArray, List.set_cons_zero, List.set_cons_succ]
        refine oneH 10 rfl rfl (by kernel_rfl) fun K hK => ?_
        refine wpH_call (some 60) rfl 149 #[.int .u64 ((l.getD (i - 2) 0 : Nat) : Int), .agg (nums .i64 [19, 61, 6]), .agg #[.int .i64 64, .int .i64 80, .int .i64 28, .int .i64 34, .int .i64 39, .int .i64 14, .int .i64 18, .int .i64 41, .int .i64 1, .int .i64 8, .int .i64 7, .int .i64 19, .int .i64 61, .int .i64 6]] (by kernel_rfl) _ _ (small1_any _ wr.drew hb2) fun Wc1 hWc1 => ?_
        simp only [Act.put, List.setIfInBounds_toArray, List.set_cons_zero, List.set_cons_succ]
        have hSc1 := SchS.keep wr.drew Wc1 hS hWc1
        refine hK _ _ hSc1 fun _ => ?_
        clear hK K
        refine takeH 16 rfl rfl (some 66) rfl (.int .u64 (((smallS (l.getD (i - 2) 0) 19 61 6 + l.getD (i - 7) 0) % 18446744073709551616 : Nat) : Int)) (by kernel_rfl) (by kernel_rfl) (by kernel_rfl) (fun _ _ _ h => h) (fun w1 _ => runAddW _ _ _ rfl _ _ rfl rfl) hSc1 ?_
        simp only [Act.put, List.setIfInBounds_toArray, List.set_cons_zero, List.set_cons_succ]
        refine oneH 25 rfl rfl (by kernel_rfl) fun K hK => ?_
        refine wpH_call (some 75) rfl 149 #[.int .u64 ((l.getD (i - 15) 0 : Nat) : Int), .agg (nums .i64 [1, 8, 7]), .agg #[.int .i64 64, .int .i64 80, .int .i64 28, .int .i64 34, .int .i64 39, .int .i64 14, .int .i64 18, .int .i64 41, .int .i64 1, .int .i64 8, .int .i64 7, .int .i64 19, .int .i64 61, .int .i64 6]] (by kernel_rfl) _ _ (small0_any _ Wc1 hb15) fun Wc2 hWc2 => ?_
        simp only [Act.put, List.setIfInBounds_toArray, List.set_cons_zero, List.set_cons_succ]
        have hSc2 := SchS.keep Wc1 Wc2 hSc1 hWc2
        refine hK _ _ hSc2 fun _ => ?_
        clear hK K
        refine takeH 26 rfl rfl (some 76) rfl (.int .u64 ((((smallS (l.getD (i - 2) 0) 19 61 6 + l.getD (i - 7) 0) % 18446744073709551616 + smallS (l.getD (i - 15) 0) 1 8 7) % 18446744073709551616 : Nat) : Int)) (by kernel_rfl) (by kernel_rfl) (by kernel_rfl) (fun _ _ _ h => h) (fun w1 _ => runAddW _ _ _ rfl _ _ rfl rfl) hSc2 ?_
        simp only [Act.put, List.setIfInBounds_toArray, List.set_cons_zero, List.set_cons_succ]
        refine takeH 32 rfl rfl (some 82) rfl (.int .u64 ((nextS (schedL b i) i : Nat) : Int)) (by kernel_rfl) (by kernel_rfl) (by kernel_rfl) (fun _ _ _ h => h) (fun w1 _ => by rw [HNX.out]; exact runAddW _ _ _ rfl _ _ rfl rfl) hSc2 ?_
        simp only [Act.put, List.setIfInBounds_toArray, List.set_cons_zero, List.set_cons_succ]
        refine takeH 33 rfl rfl (some 83) rfl (.pointer (some ⟨w.heap.size + 1, i, none⟩)) (by kernel_rfl) (by kernel_rfl) (by kernel_rfl) (fun _ _ _ h => h) (fun w1 _ => runAt _ _ _ rfl _ _ _ rfl rfl (atRow w1 _ i _ _ (by omega))) hSc2 ?_
        simp only [Act.put, List.setIfInBounds_toArray, List.set_cons_zero, List.set_cons_succ]
        have hrow2 := (hrow.drew.below hWc1).below hWc2
        have hcl2 := hrow2.cell i (by omega)
        have hfz2 := hrow2.frozen i
        have hS3 : SchS w l i (Wc2.setCell ⟨w.heap.size + 1, i, none⟩ (.int .u64 ((nextS (schedL b i) i : Nat) : Int))) := ⟨Below.setCell hSc2.1 (by show w.heap.size ≤ w.heap.size + 1; omega) _, by rw [setCell_block _ _ _ _ _ (by show ¬ w.heap.size + 1 = w.heap.size; omega)]; exact hSc2.2.1, _, hrow2.set i _⟩
        refine oneH 34 rfl rfl (by kernel_rfl) fun K hK => ?_
        refine wpH_skip (w' := Wc2.setCell ⟨w.heap.size + 1, i, none⟩ (.int .u64 ((nextS (schedL b i) i : Nat) : Int))) rfl (runStore _ _ _ rfl _ _ rfl rfl (stWord Wc2 _ i _ _ hcl2 hfz2)) ?_
        refine hK _ _ hS3 fun _ => ?_
        clear hK K
        refine wpAnyH_done (by kernel_rfl) ?_ _
        have HB2 := Lib.hid hS3.1
        have HF2 := Lib.hid hS3.2.1
        have HR2 := Lib.hid (hrow2.set i (nextS (schedL b i) i))
        clear hS3 hcl2 hfz2 hrow2 hSc1 hWc1 hSc2 hWc2 hS hrow hform hbel hcl hself hb2 hb15 hl HNX
        generalize Wc2.setCell ⟨w.heap.size + 1, i, none⟩ (.int .u64 ((nextS (schedL b i) i : Nat) : Int)) = W9 at *
        go_wp2
        go_round
        case rel => exact ⟨i + 1, l.set i (nextS (schedL b i) i), by omega, by go_num, by rw [HSET.out, HNEXT.out], HR2.out, HF2.out, HB2.out⟩
        case measure => simp [intOf]; omega
end Go.Proofs.YtlbpodddokhmaaaGreat.Sha64
/-
  SHA-2's words of 64 bits: the walk of step.
  Conditions: a block; words that fit.
-/
namespace Go.Proofs.YtlbpodddokhmaaaGreat.Sha64
open Go.ChangeShapes Go.WideShapes Go.ChangeAt Go.RowKit Go.Deep Go.Proofs.YtlbpodddokhmaaaGreat.Bw
open Go.Proofs.YtlbpodddokhmaaaGreat.Sha (roundsL firstsL GlobAt zeros zeros_length made_zeros)
def Words (l : List Nat) : Prop := ∀ j, l.getD j 0 < 18446744073709551616
def notW (x : Nat) : Nat := 18446744073709551616 - 1 - x
def chW (e f g : Nat) : Nat := (e &&& f) ^^^ (notW e &&& g)
def majW (a b c : Nat) : Nat := (a &&& b) ^^^ (a &&& c) ^^^ (b &&& c)
def t1W (s : List Nat) (k _x : Nat) : Nat := (((s.getD 7 0 + bigS (s.getD 4 0) 14 18 41) % 18446744073709551616 + chW (s.getD 4 0) (s.getD 5 0) (s.getD 6 0)) % 18446744073709551616 + k) % 18446744073709551616
def t1F (s : List Nat) (k x : Nat) : Nat := (t1W s k x + x) % 18446744073709551616
def t2F (s : List Nat) : Nat := (bigS (s.getD 0 0) 28 34 39 + majW (s.getD 0 0) (s.getD 1 0) (s.getD 2 0)) % 18446744073709551616
/-- The state behind a round. -/
def roundW (s : List Nat) (k x : Nat) : List Nat := [(t1F s k x + t2F s) % 18446744073709551616, s.getD 0 0, s.getD 1 0, s.getD 2 0, (s.getD 3 0 + t1F s k x) % 18446744073709551616, s.getD 4 0, s.getD 5 0, s.getD 6 0]
def roundsW (h k x : List Nat) : Nat → List Nat
  | 0 => h
  | n + 1 => roundW (roundsW h k x n) (k.getD n 0) (x.getD n 0)
theorem roundsW_length {h : List Nat} (k x : List Nat) (hh : h.length = 8) : ∀ n, (roundsW h k x n).length = 8
  | 0 => hh
  | _ + 1 => rfl
def sumF (h s : List Nat) (i : Nat) : Nat := (h.getD i 0 + s.getD i 0) % 18446744073709551616
def stepW (h k : List Nat) (b : List UInt8) : List Nat := tab (sumF h (roundsW h k (schedL b 80) 80)) 8
theorem notW_lt (x : Nat) : notW x < 18446744073709551616 := by unfold notW; omega
theorem words_nil : Words [] := fun j => by simp
theorem words_cons {a : Nat} {l : List Nat} (h : a < 18446744073709551616) (hl : Words l) : Words (a :: l) := fun j => by
  cases j with
  | zero => simpa using h
  | succ j => simpa using hl j
theorem roundsW_words {h : List Nat} (k x : List Nat) (hh : Words h) : ∀ n, Words (roundsW h k x n)
  | 0 => hh
  | n + 1 => by
    have hs := roundsW_words k x hh n
    show Words (roundW _ _ _)
    unfold roundW
    exact words_cons (Nat.mod_lt _ (by omega)) (words_cons (hs _) (words_cons (hs _) (words_cons (hs _) (words_cons (Nat.mod_lt _ (by omega)) (words_cons (hs _) (words_cons (hs _) (words_cons (hs _) words_nil)))))))
theorem big0_any (x : Nat) (w : World) (hx : x < 18446744073709551616) : Calls Tryz.prog 144 #[.int .u64 x, .agg (nums .i64 [28, 34, 39]), .agg #[.int .i64 64, .int .i64 80, .int .i64 28, .int .i64 34, .int .i64 39, .int .i64 14, .int .i64 18, .int .i64 41, .int .i64 1, .int .i64 8, .int .i64 7, .int .i64 19, .int .i64 61, .int .i64 6]] w fun e w' => e = .returned (.int .u64 ((bigS x 28 34 39 : Nat) : Int)) ∧ Below w.heap.size w w' := big_any x 28 34 39 w hx (by omega) (by omega) (by omega) (by omega) (by omega) (by omega)
theorem big1_any (x : Nat) (w : World) (hx : x < 18446744073709551616) : Calls Tryz.prog 144 #[.int .u64 x, .agg (nums .i64 [14, 18, 41]), .agg #[.int .i64 64, .int .i64 80, .int .i64 28, .int .i64 34, .int .i64 39, .int .i64 14, .int .i64 18, .int .i64 41, .int .i64 1, .int .i64 8, .int .i64 7, .int .i64 19, .int .i64 61, .int .i64 6]] w fun e w' => e = .returned (.int .u64 ((bigS x 14 18 41 : Nat) : Int)) ∧ Below w.heap.size w w' := big_any x 14 18 41 w hx (by omega) (by omega) (by omega) (by omega) (by omega) (by omega)
theorem not_xor (n m : Nat) (h : m < 2 ^ n) : (2 ^ n - 1) ^^^ m = 2 ^ n - 1 - m := by
  apply Nat.eq_of_testBit_eq
  intro i
  rw [Nat.testBit_xor, Nat.testBit_two_pow_sub_one, show 2 ^ n - 1 - m = 2 ^ n - (m + 1) by omega, Nat.testBit_two_pow_sub_succ h]
  by_cases hi : i < n
  · simp [hi]
  · simp [hi, Nat.testBit_lt_two_pow (Nat.lt_of_lt_of_le h (Nat.pow_le_pow_right (by omega) (show n ≤ i by omega)))]
theorem runNot {o : Oper} {a : Act} {w : World} (x : Operand) (ho : o.op = .unOp .xor 76 x) (m : Nat) (hx : a.eval x = .int .u64 (m : Int)) (hm : m < 18446744073709551616) :
    (execOp a.eval o).run Tryz.prog w = .ok (.value (.int .u64 ((notW m : Nat) : Int))) w := by
  unfold execOp
  simp only [ho, hx]
  go_simp
  show bits .xor .u64 ((18446744073709551616 - 1 : Nat) : Int) (m : Int) = _
  rw [xor64 _ _ (by omega) hm]
  have := not_xor 64 m hm
  unfold notW
  exact congrArg _ this
theorem runAnd {o : Oper} {a : Act} {w : World} (x y : Operand) (tp : TypeId) (ho : o.op = .binOp .and 76 x y tp) (m n : Nat) (hx : a.eval x = .int .u64 (m : Int)) (hy : a.eval y = .int .u64 (n : Int)) (hm : m < 18446744073709551616) (hn : n < 18446744073709551616) :
    (execOp a.eval o).run Tryz.prog w = .ok (.value (.int .u64 ((m &&& n : Nat) : Int))) w := by
  unfold execOp
  simp only [ho, hx, hy]
  rw [← and64 m n hm hn]
  go_simp
theorem runXor {o : Oper} {a : Act} {w : World} (x y : Operand) (tp : TypeId) (ho : o.op = .binOp .xor 76 x y tp) (m n : Nat) (hx : a.eval x = .int .u64 (m : Int)) (hy : a.eval y = .int .u64 (n : Int)) (hm : m < 18446744073709551616) (hn : n < 18446744073709551616) :
    (execOp a.eval o).run Tryz.prog w = .ok (.value (.int .u64 ((m ^^^ n : Nat) : Int))) w := by
  unfold execOp
  simp only [ho, hx, hy]
  rw [← xor64 m n hm hn]
  go_simp
theorem stop_load {P : Program} {ops : Array Oper} {rest : List Oper} {o : Oper} {a : Act} {w : World} {Q : Exit → Act → World → Prop} {t : TypeId} {x : Operand} (_ : o.op = .load t x) (h : RowKit.Hid (wpList P ops Q (o :: rest) a w)) : wpList P ops Q (o :: rest) a w := h.out
theorem stop_store {P : Program} {ops : Array Oper} {rest : List Oper} {o : Oper} {a : Act} {w : World} {Q : Exit → Act → World → Prop} {t : TypeId} {x y : Operand} (_ : o.op = .store t x y) (h : RowKit.Hid (wpList P ops Q (o :: rest) a w)) : wpList P ops Q (o :: rest) a w := h.out
/-- What step's regions keep. -/
structure StpS (w : World) (h s x : List Nat) (rx : Nat) (W : World) : Prop where
  bel : Below w.heap.size w W
  row : NumsAt W w.heap.size 81 .u64 h
  form : W.heap[w.heap.size + 1]? = some (.cells #[.int .i64 64, .int .i64 80, .int .i64 28, .int .i64 34, .int .i64 39, .int .i64 14, .int .i64 18, .int .i64 41, .int .i64 1, .int .i64 8, .int .i64 7, .int .i64 19, .int .i64 61, .int .i64 6] 166 (0, 0))
  res : NumsAt W (w.heap.size + 2) 81 .u64 (zeros 8)
  st : NumsAt W (w.heap.size + 3) 81 .u64 s
  xs : NumsAt W rx 76 .u64 x
theorem StpS.keep {w : World} {h s x : List Nat} {rx : Nat} (W W1 : World) (a : StpS w h s x rx W) (hb : Below W.heap.size W W1) : StpS w h s x rx W1 :=
  ⟨a.bel.trans (hb.mono a.bel.size), a.row.below hb, below_heap hb (lt_of_heap a.form) a.form, a.res.below hb, a.st.below hb, a.xs.below hb⟩
set_option maxHeartbeats 3200000 in
set_option maxRecDepth 100000 in
theorem step_any (h k : List Nat) (b : List UInt8) (kb : Nat) (w : World) (hh : h.length = 8) (hhw : Words h) (hk : k.length = 80) (hkb : NumsAt w kb 76 .u64 k) (hb : b.length = 16 * 8) :
    Calls Tryz.prog 128 #[.agg (nums .u64 h), .slice (some ⟨kb, 0, none⟩) 80 80, .string (B b), FV] w fun e w' => e = .returned (.agg (nums .u64 (stepW h k b))) ∧ Below w.heap.size w w' := by
  have hFV : FV = .agg #[.int .i64 64, .int .i64 80, .int .i64 28, .int .i64 34, .int .i64 39, .int .i64 14, .int .i64 18, .int .i64 41, .int .i64 1, .int .i64 8, .int .i64 7, .int .i64 19, .int .i64 61, .int .i64 6] := rfl
  have HSCH := Lib.hid fun W => schedule_any b W hb
  have hxl := schedL_length b 80
  have HSTEP := Lib.hid (show stepW h k b = tab (sumF h (roundsW h k (schedL b 80) 80)) 8 from rfl)
  have HRL := Lib.hid (roundsW_length k (schedL b 80) hh)
  have HRW := Lib.hid (roundsW_words k (schedL b 80) hhw)
  have HRN := Lib.hid (show ∀ n, roundsW h k (schedL b 80) (n + 1) = roundW (roundsW h k (schedL b 80) n) (k.getD n 0) ((schedL b 80).getD n 0) from fun _ => rfl)
  have HR0 := Lib.hid (show roundsW h k (schedL b 80) 0 = h from rfl)
  have hresl : (stepW h k b).length = 8 := tab_length _ _
  rw [hFV] at *
  generalize stepW h k b = res at *
  generalize roundsW h k (schedL b 80) = rs at *
  generalize schedL b 80 = x at *
  go_enter Tryz.func128, Tryz.ntmps128
  go_upto_region 1 with fail
  rw [show (#[.int .u64 0, .int .u64 0, .int .u64 0, .int .u64 0, .int .u64 0, .int .u64 0, .int .u64 0, .int .u64 0] : Array Value) = nums .u64 (zeros 8) by kernel_rfl, show w.heap.size + 1 + 1 = w.heap.size + 2 from rfl]
  have hrow : NumsAt (((w.alloc (.cells (nums .u64 h) 81)).alloc (.cells #[.int .i64 64, .int .i64 80, .int .i64 28, .int .i64 34, .int .i64 39, .int .i64 14, .int .i64 18, .int .i64 41, .int .i64 1, .int .i64 8, .int .i64 7, .int .i64 19, .int .i64 61, .int .i64 6] 166)).alloc (.cells (nums .u64 (zeros 8)) 81)) w.heap.size 81 .u64 h := ((NumsAt.new w _ _ h).alloc _).alloc _
  have hform : (((w.alloc (.cells (nums .u64 h) 81)).alloc (.cells #[.int .i64 64, .int .i64 80, .int .i64 28, .int .i64 34, .int .i64 39, .int .i64 14, .int .i64 18, .int .i64 41, .int .i64 1, .int .i64 8, .int .i64 7, .int .i64 19, .int .i64 61, .int .i64 6] 166)).alloc (.cells (nums .u64 (zeros 8)) 81)).heap[w.heap.size + 1]? = some (.cells #[.int .i64 64, .int .i64 80, .int .i64 28, .int .i64 34, .int .i64 39, .int .i64 14, .int .i64 18, .int .i64 41, .int .i64 1, .int .i64 8, .int .i64 7, .int .i64 19, .int .i64 61, .int .i64 6] 166 (0, 0)) := heap_under (heap_at (by simp))
  have hres : NumsAt (((w.alloc (.cells (nums .u64 h) 81)).alloc (.cells #[.int .i64 64, .int .i64 80, .int .i64 28, .int .i64 34, .int .i64 39, .int .i64 14, .int .i64 18, .int .i64 41, .int .i64 1, .int .i64 8, .int .i64 7, .int .i64 19, .int .i64 61, .int .i64 6] 166)).alloc (.cells (nums .u64 (zeros 8)) 81)) (w.heap.size + 2) 81 .u64 (zeros 8) := heap_at (by simp)
  have hbel : Below w.heap.size w (((w.alloc (.cells (nums .u64 h) 81)).alloc (.cells #[.int .i64 64, .int .i64 80, .int .i64 28, .int .i64 34, .int .i64 39, .int .i64 14, .int .i64 18, .int .i64 41, .int .i64 1, .int .i64 8, .int .i64 7, .int .i64 19, .int .i64 61, .int .i64 6] 166)).alloc (.cells (nums .u64 (zeros 8)) 81)) := by ((repeat' (with_reducible first | exact Below.refl _ _ | assumption | refine Below.drew ?_ | refine below_drewN ?_ _ | refine Below.setCell ?_ ?_ _ | refine Below.alloc ?_ ?_ _ | refine Below.ext ?_ ?_ _ | refine Below.trans ?_ (Below.mono ‹_› ?_))) <;> first | omega | (simp; done) | (simp; omega))
  have hsz : (((w.alloc (.cells (nums .u64 h) 81)).alloc (.cells #[.int .i64 64, .int .i64 80, .int .i64 28, .int .i64 34, .int .i64 39, .int .i64 14, .int .i64 18, .int .i64 41, .int .i64 1, .int .i64 8, .int .i64 7, .int .i64 19, .int .i64 61, .int .i64 6] 166)).alloc (.cells (nums .u64 (zeros 8)) 81)).heap.size = w.heap.size + 3 := by simp
  generalize ((w.alloc (.cells (nums .u64 h) 81)).alloc (.cells #[.int .i64 64, .int .i64 80, .int .i64 28, .int .i64 34, .int .i64 39, .int .i64 14, .int .i64 18, .int .i64 41, .int .i64 1, .int .i64 8, .int .i64 7, .int .i64 19, .int .i64 61, .int .i64 6] 166)).alloc (.cells (nums .u64 (zeros 8)) 81) = W0 at *
  apply wp_region_lit (l := [_, _, _])
  refine wpList_load_rowTo rfl _ rfl 81 _ rfl w.heap.size rfl (nums .u64 h) 81 (0, 0) hrow _ Tryz.underlying81 rfl (by rw [nums_size, hh]; kernel_rfl) ?_
  refine Go.Great.wpList_allocTo rfl _ rfl (.pointer (some ⟨W0.heap.size, 0, none⟩)) (.cells (nums .u64 (zeros 8)) 81) (by kernel_rfl) ?_
  refine wpList_store_rowTo rfl 81 _ _ rfl rfl W0.heap.size (nums .u64 h) rfl rfl 81 (nums .u64 (zeros 8)) (heap_alloc_last W0 _) (by rw [nums_size, hh]; kernel_rfl) (by rw [nums_size, nums_size, hh, zeros_length]) (nums_oneCell _ _) ?_
  rw [World.setRow_alloc_new]
  have hst : NumsAt (W0.alloc (.cells (nums .u64 h) 81)) (w.heap.size + 3) 81 .u64 h := heap_at hsz
  replace hrow := hrow.alloc (.cells (nums .u64 h) 81)
  replace hres := hres.alloc (.cells (nums .u64 h) 81)
  replace hform : (W0.alloc (.cells (nums .u64 h) 81)).heap[w.heap.size + 1]? = _ := heap_under hform
  replace hbel : Below w.heap.size w (W0.alloc (.cells (nums .u64 h) 81)) := hbel.alloc (by omega) _
  rw [hsz]
  generalize W0.alloc (.cells (nums .u64 h) 81) = W1 at *
  clear hsz
  go_wp2_with (with_reducible refine stop_load (t := 166) rfl ?_)
  refine Lib.hid ?_
  refine wpList_load_rowTo rfl _ rfl 166 _ rfl (w.heap.size + 1) rfl _ _ (0, 0) hform _ Tryz.underlying166 rfl (by kernel_rfl) ?_
  go_wp2_with fail
  refine Calls.mono (HSCH.out _) ?_
  rintro _ W2 ⟨rx, rfl, hx, hrx, hb2⟩
  have HA := Lib.hid (show StpS w h h x rx W2 from ⟨hbel.trans (hb2.mono hbel.size), hrow.below hb2, below_heap hb2 (lt_of_heap hform) hform, hres.below hb2, hst.below hb2, hx⟩)
  have hrx3 : w.heap.size + 3 < rx := Nat.lt_of_lt_of_le hst.lt hrx
  have hkl := hkb.lt
  clear hbel hrow hform hres hst hx hb2 hrx W1
  go_wp2
  go_loopw [20] (fun s20 wr => ∃ n : Nat, n ≤ 80 ∧ s20 = .int .i64 n ∧ StpS w h (rs n) x rx wr) (fun s _ => 80 - (intOf s).toNat)
  case atStart => exact ⟨0, by omega, rfl, by rw [HR0.out]; exact HA.out⟩
  case round =>
    clear HA W2
    obtain ⟨n, hn, rfl, hA⟩ := hrel
    have hsl := HRL.out n
    by_cases hend : n = 80
    · have hlt : ¬ (n : Int) < 80 := by omega
      have HEND := Lib.hid hend
      have HT := Lib.hid (show res = tab (sumF h (rs n)) 8 by rw [HSTEP.out, hend])
      clear hend
      have HSW := Lib.hid (HRW.out n)
      generalize rs n = s at *
      go_wp2
      have hrow := hA.row
      have hst := hA.st
      have hres := hA.res
      have hbel := hA.bel
      clear hA
      generalize wr = W9 at *
      go_loopw [99] (fun s99 wq => ∃ (i : Nat) (l : List Nat), i ≤ 8 ∧ s99 = .int .i64 i ∧ l = fillN (sumF h s) h i ∧ NumsAt wq w.heap.size 81 .u64 l ∧ NumsAt wq (w.heap.size + 3) 81 .u64 s ∧ NumsAt wq (w.heap.size + 2) 81 .u64 (zeros 8) ∧ Below w.heap.size w wq) (fun s _ => 8 - (intOf s).toNat)
      case atStart => exact ⟨0, h, by omega, rfl, rfl, hrow, hst, hres, hbel⟩
      case round =>
        clear hrow hst hres hbel W9
        obtain ⟨i, l, hi, rfl, hl, hrow, hst, hres, hbel⟩ := hrel
        have hll : l.length = 8 := by rw [hl, fillN_length, hh]
        have HL := Lib.hid hl
        clear hl
        by_cases hi8 : i = 8
        · have hlt8 : ¬ (i : Int) < 8 := by omega
          have hl0 : l = res := by rw [HL.out, hi8, fillN_full _ hh, HT.out]
          rw [hl0] at hrow
          clear hi8 hl0 HL hll
          go_upto_region 14 with fail
          apply wp_region_lit (l := [_, _])
          refine wpList_load_rowTo rfl _ rfl 81 _ rfl w.heap.size rfl (nums .u64 res) 81 (0, 0) hrow _ Tryz.underlying81 rfl (by rw [nums_size, hresl]; kernel_rfl) ?_
          refine wpList_store_rowTo rfl 81 _ _ rfl rfl (w.heap.size + 2) (nums .u64 res) rfl rfl 81 (nums .u64 (zeros 8)) hres (by rw [nums_size, hresl]; kernel_rfl) (by rw [nums_size, nums_size, hresl, zeros_length]) (nums_oneCell _ _) ?_
          have hres2 := hres.setRow res
          have hbel2 := Below.setRow hbel (w.heap.size + 2) (by omega) (nums .u64 res)
          generalize wr.setRow (w.heap.size + 2) (nums .u64 res) = W8 at *
          go_wp2
          exact post_row (w.heap.size + 2) Tryz.results128 81 (nums .u64 res) _ rfl hres2 Tryz.underlying81 rfl (by rw [nums_size, hresl]; kernel_rfl) rfl ⟨rfl, hbel2⟩
        · have hlt8 : (i : Int) < 8 := by omega
          have hi8' : i < 8 := by omega
          have hlh : l.getD i 0 = h.getD i 0 := by rw [HL.out, fillN_get _ _ _ _ (by omega), if_neg (by omega)]
          have hc1 := hrow.cellv i _ (by omega) hlh
          have hc2 := hst.cell i (by omega)
          have hfz := hrow.frozen i
          have hbl1 := hrow.lt
          have hbl2 := hst.lt
          have HSF := Lib.hid (show sumF h s i = (h.getD i 0 + s.getD i 0) % 18446744073709551616 from rfl)
          generalize h.getD i 0 = p at *
          generalize s.getD i 0 = q at *
          have hz : ((p : Int) + (q : Int)) % 18446744073709551616 = (((p + q) % 18446744073709551616 : Nat) : Int) := by omega
          have hy : IntKind.u64.wrap ((p : Int) + (q : Int)) = (((p + q) % 18446744073709551616 : Nat) : Int) := by rw [← hz]; simp [IntKind.wrap, IntKind.bits, IntKind.signed]
          generalize (p + q) % 18446744073709551616 = z at *
          have HROW := Lib.hid hrow
          have HST2 := Lib.hid hst
          have HRES2 := Lib.hid hres
          clear hrow hst hres hlh
          go_wp2
          go_region
          go_wp2
          go_round
          case rel =>
            refine ⟨i + 1, l.set i z, by omega, by go_num, by rw [fillN, ← HL.out, HSF.out], ?_, ?_, ?_, ?_⟩
            · exact HROW.out.drew.set i z
            · exact HST2.out.drew.other w.heap.size i _ (by omega)
            · exact HRES2.out.drew.other w.heap.size i _ (by omega)
            · exact Below.setCell hbel.drew (Nat.le_refl _) _
          case measure => simp [intOf]; omega
    · have hlt : (n : Int) < 80 := by omega
      have hn2 : n < 80 := by omega
      have hw := HRW.out n
      have HRNN := Lib.hid (HRN.out n)
      have hxn := hA.xs.cell n (by omega)
      obtain ⟨kn, hkn⟩ : ∃ kn, k.getD n 0 = kn := ⟨_, rfl⟩
      have HKN := Lib.hid hkn
      rw [hkn] at HRNN
      clear hkn
      generalize x.getD n 0 = xn at *
      generalize rs n = s at *
      go_upto_region 5 with fail
      have hS : StpS w h s x rx wr.drew := ⟨hA.bel.drew, hA.row.drew, hA.form, hA.res.drew, hA.st.drew, hA.xs.drew⟩
      refine wp_region_held (S := fun W => StpS w h s x rx W) (by kernel_rfl) ?_
      change wpAnyH _ _ _ _ _ _ _ _ wr.drew
      refine takeH 0 rfl rfl (some 25) rfl (.pointer (some ⟨w.heap.size + 3, 7, none⟩)) (by kernel_rfl) (by kernel_rfl) (by kernel_rfl) (fun _ _ _ h => h) (fun w1 _ => runAt _ _ _ rfl _ _ _ rfl rfl (atWords w1 _ 7 (by omega))) hS ?_
      simp only [Act.put, List.setIfInBounds_toArray, List.set_cons_zero, List.set_cons_succ]
      refine takeH 1 rfl rfl (some 26) rfl (.int .u64 ((s.getD 7 0 : Nat) : Int)) (by kernel_rfl) (by kernel_rfl) (by kernel_rfl) (fun _ _ _ h => h) (fun w1 h1 => runLoad _ _ rfl _ _ rfl (ldT w1 _ _ (h1.st.cell 7 (by omega)))) hS ?_
      simp only [Act.put, List.setIfInBounds_toArray, List.set_cons_zero, List.set_cons_succ]
      refine takeH 2 rfl rfl (some 27) rfl (.pointer (some ⟨w.heap.size + 3, 4, none⟩)) (by kernel_rfl) (by kernel_rfl) (by kernel_rfl) (fun _ _ _ h => h) (fun w1 _ => runAt _ _ _ rfl _ _ _ rfl rfl (atWords w1 _ 4 (by omega))) hS ?_
      simp only [Act.put, List.setIfInBounds_toArray, List.set_cons_zero, List.set_cons_succ]
      refine takeH 3 rfl rfl (some 28) rfl (.int .u64 ((s.getD 4 0 : Nat) : Int)) (by kernel_rfl) (by kernel_rfl) (by kernel_rfl) (fun _ _ _ h => h) (fun w1 h1 => runLoad _ _ rfl _ _ rfl (ldT w1 _ _ (h1.st.cell 4 (by omega)))) hS ?_
      simp only [Act.put, List.setIfInBounds_toArray, List.set_cons_zero, List.set_cons_succ]
      refine takeH 4 rfl rfl (some 29) rfl (.pointer (some ⟨w.heap.size + 1, 5, none⟩)) (by kernel_rfl) (by kernel_rfl) (by kernel_rfl) (fun _ _ _ h => h) (fun _ _ => by kernel_rfl) hS ?_
      simp only [Act.put, List.setIfInBounds_toArray, List.set_cons_zero, List.set_cons_succ]
      refine takeH 5 rfl rfl (some 30) rfl (.agg (nums .i64 [14, 18, 41])) (by kernel_rfl) (by kernel_rfl) (by kernel_rfl) (fun _ _ _ h => h) (fun w1 h1 => runThree 5 [14, 18, 41] _ rfl rfl h1.form rfl (fun j hj => match j, hj with | 0, _ => rfl | 1, _ => rfl | 2, _ => rfl)) hS ?_
      simp only [Act.put, List.setIfInBounds_toArray, List.set_cons_zero, List.set_cons_succ]
      refine takeH 6 rfl rfl (some 31) rfl (.agg #[.int .i64 64, .int .i64 80, .int .i64 28, .int .i64 34, .int .i64 39, .int .i64 14, .int .i64 18, .int .i64 41, .int .i64 1, .int .i64 8, .int .i64 7, .int .i64 19, .int .i64 61, .int .i64 6]) (by kernel_rfl) (by kernel_rfl) (by kernel_rfl) (fun _ _ _ h => h) (fun w1 h1 => runForm _ rfl rfl h1.form) hS ?_
      simp only [Act.put, List.setIfInBounds_toArray, List.set_cons_zero, List.set_cons_succ]
      refine takeH 9 rfl rfl (some 34) rfl (.pointer (some ⟨w.heap.size + 3, 4, none⟩)) (by kernel_rfl) (by kernel_rfl) (by kernel_rfl) (fun _ _ _ h => h) (fun w1 _ => runAt _ _ _ rfl _ _ _ rfl rfl (atWords w1 _ 4 (by omega))) hS ?_
      simp only [Act.put, List.setIfInBounds_toArray, List.set_cons_zero, List.set_cons_succ]
      refine takeH 10 rfl rfl (some 35) rfl (.int .u64 ((s.getD 4 0 : Nat) : Int)) (by kernel_rfl) (by kernel_rfl) (by kernel_rfl) (fun _ _ _ h => h) (fun w1 h1 => runLoad _ _ rfl _ _ rfl (ldT w1 _ _ (h1.st.cell 4 (by omega)))) hS ?_
      simp only [Act.put, List.setIfInBounds_toArray, List.set_cons_zero, List.set_cons_succ]
      refine takeH 11 rfl rfl (some 36) rfl (.pointer (some ⟨w.heap.size + 3, 5, none⟩)) (by kernel_rfl) (by kernel_rfl) (by kernel_rfl) (fun _ _ _ h => h) (fun w1 _ => runAt _ _ _ rfl _ _ _ rfl rfl (atWords w1 _ 5 (by omega))) hS ?_
      simp only [Act.put, List.setIfInBounds_toArray, List.set_cons_zero, List.set_cons_succ]
      refine takeH 12 rfl rfl (some 37) rfl (.int .u64 ((s.getD 5 0 : Nat) : Int)) (by kernel_rfl) (by kernel_rfl) (by kernel_rfl) (fun _ _ _ h => h) (fun w1 h1 => runLoad _ _ rfl _ _ rfl (ldT w1 _ _ (h1.st.cell 5 (by omega)))) hS ?_
      simp only [Act.put, List.setIfInBounds_toArray, List.set_cons_zero, List.set_cons_succ]
      refine takeH 13 rfl rfl (some 38) rfl (.int .u64 ((s.getD 4 0 &&& s.getD 5 0 : Nat) : Int)) (by kernel_rfl) (by kernel_rfl) (by kernel_rfl) (fun _ _ _ h => h) (fun w1 _ => runAnd _ _ _ rfl _ _ rfl rfl (hw 4) (hw 5)) hS ?_
      simp only [Act.put, List.setIfInBounds_toArray, List.set_cons_zero, List.set_cons_succ]
      refine takeH 14 rfl rfl (some 39) rfl (.pointer (some ⟨w.heap.size + 3, 4, none⟩)) (by kernel_rfl) (by kernel_rfl) (by kernel_rfl) (fun _ _ _ h => h) (fun w1 _ => runAt _ _ _ rfl _ _ _ rfl rfl (atWords w1 _ 4 (by omega))) hS ?_
      simp only [Act.put, List.setIfInBounds_toArray, List.set_cons_zero, List.set_cons_succ]
      refine takeH 15 rfl rfl (some 40) rfl (.int .u64 ((s.getD 4 0 : Nat) : Int)) (by kernel_rfl) (by kernel_rfl) (by kernel_rfl) (fun _ _ _ h => h) (fun w1 h1 => runLoad _ _ rfl _ _ rfl (ldT w1 _ _ (h1.st.cell 4 (by omega)))) hS ?_
      simp only [Act.put, List.setIfInBounds_toArray, List.set_cons_zero, List.set_cons_succ]
      refine takeH 16 rfl rfl (some 41) rfl (.int .u64 ((notW (s.getD 4 0) : Nat) : Int)) (by kernel_rfl) (by kernel_rfl) (by kernel_rfl) (fun _ _ _ h => h) (fun w1 _ => runNot _ rfl _ rfl (hw 4)) hS ?_
      simp only [Act.put, List.setIfInBounds_toArray, List.set_cons_zero, List.set_cons_succ]
      refine takeH 17 rfl rfl (some 42) rfl (.pointer (some ⟨w.heap.size + 3, 6, none⟩)) (by kernel_rfl) (by kernel_rfl) (by kernel_rfl) (fun _ _ _ h => h) (fun w1 _ => runAt _ _ _ rfl _ _ _ rfl rfl (atWords w1 _ 6 (by omega))) hS ?_
      simp only [Act.put, List.setIfInBounds_toArray, List.set_cons_zero, List.set_cons_succ]
      refine takeH 18 rfl rfl (some 43) rfl (.int .u64 ((s.getD 6 0 : Nat) : Int)) (by kernel_rfl) (by kernel_rfl) (by kernel_rfl) (fun _ _ _ h => h) (fun w1 h1 => runLoad _ _ rfl _ _ rfl (ldT w1 _ _ (h1.st.cell 6 (by omega)))) hS ?_
      simp only [Act.put, List.setIfInBounds_toArray, List.set_cons_zero, List.set_cons_succ]
      refine takeH 19 rfl rfl (some 44) rfl (.int .u64 ((notW (s.getD 4 0) &&& s.getD 6 0 : Nat) : Int)) (by kernel_rfl) (by kernel_rfl) (by kernel_rfl) (fun _ _ _ h => h) (fun w1 _ => runAnd _ _ _ rfl _ _ rfl rfl (notW_lt _) (hw 6)) hS ?_
      simp only [Act.put, List.setIfInBounds_toArray, List.set_cons_zero, List.set_cons_succ]
      refine takeH 20 rfl rfl (some 45) rfl (.int .u64 ((chW (s.getD 4 0) (s.getD 5 0) (s.getD 6 0) : Nat) : Int)) (by kernel_rfl) (by kernel_rfl) (by kernel_rfl) (fun _ _ _ h => h) (fun w1 _ => runXor _ _ _ rfl _ _ rfl rfl (and_lt64 _ (hw 4)) (and_lt64 _ (notW_lt _))) hS ?_
      simp only [Act.put, List.setIfInBounds_toArray, List.set_cons_zero, List.set_cons_succ]
      refine takeH 22 rfl rfl (some 47) rfl (.slice (some ⟨kb, 0, none⟩) 80 80) (by kernel_rfl) (by kernel_rfl) (by kernel_rfl) (fun _ _ _ h => h) (fun _ _ => rfl) hS ?_
      simp only [Act.put, List.setIfInBounds_toArray, List.set_cons_zero, List.set_cons_succ]
      refine takeH 23 rfl rfl (some 48) rfl (.int .i64 (n : Int)) (by kernel_rfl) (by kernel_rfl) (by kernel_rfl) (fun _ _ _ h => h) (fun _ _ => rfl) hS ?_
      simp only [Act.put, List.setIfInBounds_toArray, List.set_cons_zero, List.set_cons_succ]
      refine takeH 24 rfl rfl (some 49) rfl (.pointer (some ⟨kb, n, none⟩)) (by kernel_rfl) (by kernel_rfl) (by kernel_rfl) (fun _ _ _ h => h) (fun w1 _ => runAt _ _ _ rfl _ _ _ rfl rfl (atRow w1 _ n _ _ hn2)) hS ?_
      simp only [Act.put, List.setIfInBounds_toArray, List.set_cons_zero, List.set_cons_succ]
      refine takeH 25 rfl rfl (some 50) rfl (.int .u64 ((kn : Nat) : Int)) (by kernel_rfl) (by kernel_rfl) (by kernel_rfl) (fun _ _ _ h => h) (fun w1 h1 => runLoad _ _ rfl _ _ rfl (ldT w1 _ _ ((hkb.below h1.bel).cellv n kn (by omega) HKN.out))) hS ?_
      simp only [Act.put, List.setIfInBounds_toArray, List.set_cons_zero, List.set_cons_succ]
      refine takeH 27 rfl rfl (some 52) rfl (.int .u64 ((xn : Nat) : Int)) (by kernel_rfl) (by kernel_rfl) (by kernel_rfl) (fun _ _ _ h => h) (fun _ _ => rfl) hS ?_
      simp only [Act.put, List.setIfInBounds_toArray, List.set_cons_zero, List.set_cons_succ]
      refine oneH 7 rfl rfl (by kernel_rfl) fun K hK => ?_
      refine wpH_call (some 32) rfl 144 #[.int .u64 ((s.getD 4 0 : Nat) : Int), .agg (nums .i64 [14, 18, 41]), .agg #[.int .i64 64, .int .i64 80, .int .i64 28, .int .i64 34, .int .i64 39, .int .i64 14, .int .i64 18, .int .i64 41, .int .i64 1, .int .i64 8, .int .i64 7, .int .i64 19, .int .i64 61, .int .i64 6]] (by kernel_rfl) _ _ (big1_any _ wr.drew (hw 4)) fun Wc1 hWc1 => ?_
      simp only [Act.put, List.setIfInBounds_toArray, List.set_cons_zero, List.set_cons_succ]
      have hSc1 := StpS.keep wr.drew Wc1 hS hWc1
      refine hK _ _ hSc1 fun _ => ?_
      clear hK K
      refine takeH 8 rfl rfl (some 33) rfl (.int .u64 (((s.getD 7 0 + bigS (s.getD 4 0) 14 18 41) % 18446744073709551616 : Nat) : Int)) (by kernel_rfl) (by kernel_rfl) (by kernel_rfl) (fun _ _ _ h => h) (fun w1 _ => runAddW _ _ _ rfl _ _ rfl rfl) hSc1 ?_
      simp only [Act.put, List.setIfInBounds_toArray, List.set_cons_zero, List.set_cons_succ]
      refine takeH 21 rfl rfl (some 46) rfl (.int .u64 ((((s.getD 7 0 + bigS (s.getD 4 0) 14 18 41) % 18446744073709551616 + chW (s.getD 4 0) (s.getD 5 0) (s.getD 6 0)) % 18446744073709551616 : Nat) : Int)) (by kernel_rfl) (by kernel_rfl) (by kernel_rfl) (fun _ _ _ h => h) (fun w1 _ => runAddW _ _ _ rfl _ _ rfl rfl) hSc1 ?_
      simp only [Act.put, List.setIfInBounds_toArray, List.set_cons_zero, List.set_cons_succ]
      refine takeH 26 rfl rfl (some 51) rfl (.int .u64 ((t1W s kn xn : Nat) : Int)) (by kernel_rfl) (by kernel_rfl) (by kernel_rfl) (fun _ _ _ h => h) (fun w1 _ => runAddW _ _ _ rfl _ _ rfl rfl) hSc1 ?_
      simp only [Act.put, List.setIfInBounds_toArray, List.set_cons_zero, List.set_cons_succ]
      refine takeH 28 rfl rfl (some 53) rfl (.int .u64 ((t1F s kn xn : Nat) : Int)) (by kernel_rfl) (by kernel_rfl) (by kernel_rfl) (fun _ _ _ h => h) (fun w1 _ => runAddW _ _ _ rfl _ _ rfl rfl) hSc1 ?_
      simp only [Act.put, List.setIfInBounds_toArray, List.set_cons_zero, List.set_cons_succ]
      refine takeH 29 rfl rfl (some 12) rfl (.int .u64 ((t1F s kn xn : Nat) : Int)) (by kernel_rfl) (by kernel_rfl) (by kernel_rfl) (fun _ _ _ h => h) (fun _ _ => rfl) hSc1 ?_
      simp only [Act.put, List.setIfInBounds_toArray, List.set_cons_zero, List.set_cons_succ]
      refine wpAnyH_done (by kernel_rfl) ?_ _
      generalize Wc1 = W5 at *
      have HS5 := Lib.hid hSc1
      clear hSc1 hWc1 hS hA
      have HWW := Lib.hid hw
      go_upto_region 6 with fail
      have hS6 : StpS w h s x rx W5.drew := ⟨HS5.out.bel.drew, HS5.out.row.drew, HS5.out.form, HS5.out.res.drew, HS5.out.st.drew, HS5.out.xs.drew⟩
      refine wp_region_held (S := fun W => StpS w h s x rx W) (by kernel_rfl) ?_
      change wpAnyH _ _ _ _ _ _ _ _ W5.drew
      refine takeH 0 rfl rfl (some 54) rfl (.pointer (some ⟨w.heap.size + 3, 0, none⟩)) (by kernel_rfl) (by kernel_rfl) (by kernel_rfl) (fun _ _ _ h => h) (fun w1 _ => runAt _ _ _ rfl _ _ _ rfl rfl (atWords w1 _ 0 (by omega))) hS6 ?_
      simp only [Act.put, List.setIfInBounds_toArray, List.set_cons_zero, List.set_cons_succ]
      refine takeH 1 rfl rfl (some 55) rfl (.int .u64 ((s.getD 0 0 : Nat) : Int)) (by kernel_rfl) (by kernel_rfl) (by kernel_rfl) (fun _ _ _ h => h) (fun w1 h1 => runLoad _ _ rfl _ _ rfl (ldT w1 _ _ (h1.st.cell 0 (by omega)))) hS6 ?_
      simp only [Act.put, List.setIfInBounds_toArray, List.set_cons_zero, List.set_cons_succ]
      refine takeH 2 rfl rfl (some 56) rfl (.pointer (some ⟨w.heap.size + 1, 2, none⟩)) (by kernel_rfl) (by kernel_rfl) (by kernel_rfl) (fun _ _ _ h => h) (fun _ _ => by kernel_rfl) hS6 ?_
      simp only [Act.put, List.setIfInBounds_toArray, List.set_cons_zero, List.set_cons_succ]
      refine takeH 3 rfl rfl (some 57) rfl (.agg (nums .i64 [28, 34, 39])) (by kernel_rfl) (by kernel_rfl) (by kernel_rfl) (fun _ _ _ h => h) (fun w1 h1 => runThree 2 [28, 34, 39] _ rfl rfl h1.form rfl (fun j hj => match j, hj with | 0, _ => rfl | 1, _ => rfl | 2, _ => rfl)) hS6 ?_
      simp only [Act.put, List.setIfInBounds_toArray, List.set_cons_zero, List.set_cons_succ]
      refine takeH 4 rfl rfl (some 58) rfl (.agg #[.int .i64 64, .int .i64 80, .int .i64 28, .int .i64 34, .int .i64 39, .int .i64 14, .int .i64 18, .int .i64 41, .int .i64 1, .int .i64 8, .int .i64 7, .int .i64 19, .int .i64 61, .int .i64 6]) (by kernel_rfl) (by kernel_rfl) (by kernel_rfl) (fun _ _ _ h => h) (fun w1 h1 => runForm _ rfl rfl h1.form) hS6 ?_
      simp only [Act.put, List.setIfInBounds_toArray, List.set_cons_zero, List.set_cons_succ]
      refine takeH 6 rfl rfl (some 60) rfl (.pointer (some ⟨w.heap.size + 3, 0, none⟩)) (by kernel_rfl) (by kernel_rfl) (by kernel_rfl) (fun _ _ _ h => h) (fun w1 _ => runAt _ _ _ rfl _ _ _ rfl rfl (atWords w1 _ 0 (by omega))) hS6 ?_
      simp only [Act.put, List.setIfInBounds_toArray, List.set_cons_zero, List.set_cons_succ]
      refine takeH 7 rfl rfl (some 61) rfl (.int .u64 ((s.getD 0 0 : Nat) : Int)) (by kernel_rfl) (by kernel_rfl) (by kernel_rfl) (fun _ _ _ h => h) (fun w1 h1 => runLoad _ _ rfl _ _ rfl (ldT w1 _ _ (h1.st.cell 0 (by omega)))) hS6 ?_
      simp only [Act.put, List.setIfInBounds_toArray, List.set_cons_zero, List.set_cons_succ]
      refine takeH 8 rfl rfl (some 62) rfl (.pointer (some ⟨w.heap.size + 3, 1, none⟩)) (by kernel_rfl) (by kernel_rfl) (by kernel_rfl) (fun _ _ _ h => h) (fun w1 _ => runAt _ _ _ rfl _ _ _ rfl rfl (atWords w1 _ 1 (by omega))) hS6 ?_
      simp only [Act.put, List.setIfInBounds_toArray, List.set_cons_zero, List.set_cons_succ]
      refine takeH 9 rfl rfl (some 63) rfl (.int .u64 ((s.getD 1 0 : Nat) : Int)) (by kernel_rfl) (by kernel_rfl) (by kernel_rfl) (fun _ _ _ h => h) (fun w1 h1 => runLoad _ _ rfl _ _ rfl (ldT w1 _ _ (h1.st.cell 1 (by omega)))) hS6 ?_
      simp only [Act.put, List.setIfInBounds_toArray, List.set_cons_zero, List.set_cons_succ]
      refine takeH 10 rfl rfl (some 64) rfl (.int .u64 ((s.getD 0 0 &&& s.getD 1 0 : Nat) : Int)) (by kernel_rfl) (by kernel_rfl) (by kernel_rfl) (fun _ _ _ h => h) (fun w1 _ => runAnd _ _ _ rfl _ _ rfl rfl (hw 0) (hw 1)) hS6 ?_
      simp only [Act.put, List.setIfInBounds_toArray, List.set_cons_zero, List.set_cons_succ]
      refine takeH 11 rfl rfl (some 65) rfl (.pointer (some ⟨w.heap.size + 3, 0, none⟩)) (by kernel_rfl) (by kernel_rfl) (by kernel_rfl) (fun _ _ _ h => h) (fun w1 _ => runAt _ _ _ rfl _ _ _ rfl rfl (atWords w1 _ 0 (by omega))) hS6 ?_
      simp only [Act.put, List.setIfInBounds_toArray, List.set_cons_zero, List.set_cons_succ]
      refine takeH 12 rfl rfl (some 66) rfl (.int .u64 ((s.getD 0 0 : Nat) : Int)) (by kernel_rfl) (by kernel_rfl) (by kernel_rfl) (fun _ _ _ h => h) (fun w1 h1 => runLoad _ _ rfl _ _ rfl (ldT w1 _ _ (h1.st.cell 0 (by omega)))) hS6 ?_
      simp only [Act.put, List.setIfInBounds_toArray, List.set_cons_zero, List.set_cons_succ]
      refine takeH 13 rfl rfl (some 67) rfl (.pointer (some ⟨w.heap.size + 3, 2, none⟩)) (by kernel_rfl) (by kernel_rfl) (by kernel_rfl) (fun _ _ _ h => h) (fun w1 _ => runAt _ _ _ rfl _ _ _ rfl rfl (atWords w1 _ 2 (by omega))) hS6 ?_
      simp only [Act.put, List.setIfInBounds_toArray, List.set_cons_zero, List.set_cons_succ]
      refine takeH 14 rfl rfl (some 68) rfl (.int .u64 ((s.getD 2 0 : Nat) : Int)) (by kernel_rfl) (by kernel_rfl) (by kernel_rfl) (fun _ _ _ h => h) (fun w1 h1 => runLoad _ _ rfl _ _ rfl (ldT w1 _ _ (h1.st.cell 2 (by omega)))) hS6 ?_
      simp only [Act.put, List.setIfInBounds_toArray, List.set_cons_zero, List.set_cons_succ]
      refine takeH 15 rfl rfl (some 69) rfl (.int .u64 ((s.getD 0 0 &&& s.getD 2 0 : Nat) : Int)) (by kernel_rfl) (by kernel_rfl) (by kernel_rfl) (fun _ _ _ h => h) (fun w1 _ => runAnd _ _ _ rfl _ _ rfl rfl (hw 0) (hw 2)) hS6 ?_
      simp only [Act.put, List.setIfInBounds_toArray, List.set_cons_zero, List.set_cons_succ]
      refine takeH 16 rfl rfl (some 70) rfl (.int .u64 (((s.getD 0 0 &&& s.getD 1 0) ^^^ (s.getD 0 0 &&& s.getD 2 0) : Nat) : Int)) (by kernel_rfl) (by kernel_rfl) (by kernel_rfl) (fun _ _ _ h => h) (fun w1 _ => runXor _ _ _ rfl _ _ rfl rfl (and_lt64 _ (hw 0)) (and_lt64 _ (hw 0))) hS6 ?_
      simp only [Act.put, List.setIfInBounds_toArray, List.set_cons_zero, List.set_cons_succ]
      refine takeH 17 rfl rfl (some 71) rfl (.pointer (some ⟨w.heap.size + 3, 1, none⟩)) (by kernel_rfl) (by kernel_rfl) (by kernel_rfl) (fun _ _ _ h => h) (fun w1 _ => runAt _ _ _ rfl _ _ _ rfl rfl (atWords w1 _ 1 (by omega))) hS6 ?_
      simp only [Act.put, List.setIfInBounds_toArray, List.set_cons_zero, List.set_cons_succ]
      refine takeH 18 rfl rfl (some 72) rfl (.int .u64 ((s.getD 1 0 : Nat) : Int)) (by kernel_rfl) (by kernel_rfl) (by kernel_rfl) (fun _ _ _ h => h) (fun w1 h1 => runLoad _ _ rfl _ _ rfl (ldT w1 _ _ (h1.st.cell 1 (by omega)))) hS6 ?_
      simp only [Act.put, List.setIfInBounds_toArray, List.set_cons_zero, List.set_cons_succ]
      refine takeH 19 rfl rfl (some 73) rfl (.pointer (some ⟨w.heap.size + 3, 2, none⟩)) (by kernel_rfl) (by kernel_rfl) (by kernel_rfl) (fun _ _ _ h => h) (fun w1 _ => runAt _ _ _ rfl _ _ _ rfl rfl (atWords w1 _ 2 (by omega))) hS6 ?_
      simp only [Act.put, List.setIfInBounds_toArray, List.set_cons_zero, List.set_cons_succ]
      refine takeH 20 rfl rfl (some 74) rfl (.int .u64 ((s.getD 2 0 : Nat) : Int)) (by kernel_rfl) (by kernel_rfl) (by kernel_rfl) (fun _ _ _ h => h) (fun w1 h1 => runLoad _ _ rfl _ _ rfl (ldT w1 _ _ (h1.st.cell 2 (by omega)))) hS6 ?_
      simp only [Act.put, List.setIfInBounds_toArray, List.set_cons_zero, List.set_cons_succ]
      refine takeH 21 rfl rfl (some 75) rfl (.int .u64 ((s.getD 1 0 &&& s.getD 2 0 : Nat) : Int)) (by kernel_rfl) (by kernel_rfl) (by kernel_rfl) (fun _ _ _ h => h) (fun w1 _ => runAnd _ _ _ rfl _ _ rfl rfl (hw 1) (hw 2)) hS6 ?_
      simp only [Act.put, List.setIfInBounds_toArray, List.set_cons_zero, List.set_cons_succ]
      refine takeH 22 rfl rfl (some 76) rfl (.int .u64 ((majW (s.getD 0 0) (s.getD 1 0) (s.getD 2 0) : Nat) : Int)) (by kernel_rfl) (by kernel_rfl) (by kernel_rfl) (fun _ _ _ h => h) (fun w1 _ => runXor _ _ _ rfl _ _ rfl rfl (xor_lt64 (and_lt64 _ (hw 0)) (and_lt64 _ (hw 0))) (and_lt64 _ (hw 1))) hS6 ?_
      simp only [Act.put, List.setIfInBounds_toArray, List.set_cons_zero, List.set_cons_succ]
      refine oneH 5 rfl rfl (by kernel_rfl) fun K hK => ?_
      refine wpH_call (some 59) rfl 144 #[.int .u64 ((s.getD 0 0 : Nat) : Int), .agg (nums .i64 [28, 34, 39]), .agg #[.int .i64 64, .int .i64 80, .int .i64 28, .int .i64 34, .int .i64 39, .int .i64 14, .int .i64 18, .int .i64 41, .int .i64 1, .int .i64 8, .int .i64 7, .int .i64 19, .int .i64 61, .int .i64 6]] (by kernel_rfl) _ _ (big0_any _ W5.drew (hw 0)) fun Wc1 hWc1 => ?_
      simp only [Act.put, List.setIfInBounds_toArray, List.set_cons_zero, List.set_cons_succ]
      have hSc1 := StpS.keep W5.drew Wc1 hS6 hWc1
      refine hK _ _ hSc1 fun _ => ?_
      clear hK K
      refine takeH 23 rfl rfl (some 77) rfl (.int .u64 ((t2F s : Nat) : Int)) (by kernel_rfl) (by kernel_rfl) (by kernel_rfl) (fun _ _ _ h => h) (fun w1 _ => runAddW _ _ _ rfl _ _ rfl rfl) hSc1 ?_
      simp only [Act.put, List.setIfInBounds_toArray, List.set_cons_zero, List.set_cons_succ]
      refine takeH 24 rfl rfl (some 13) rfl (.int .u64 ((t2F s : Nat) : Int)) (by kernel_rfl) (by kernel_rfl) (by kernel_rfl) (fun _ _ _ h => h) (fun _ _ => rfl) hSc1 ?_
      simp only [Act.put, List.setIfInBounds_toArray, List.set_cons_zero, List.set_cons_succ]
      refine wpAnyH_done (by kernel_rfl) ?_ _
      have HS6 := Lib.hid hSc1
      clear hSc1 hWc1 hS6 hxn HS5 hw
      generalize Wc1 = W6 at *
      have hst := HS6.out.st
      have f0 := HWW.out 0
      have c0 := hst.cell 0 (by omega)
      have c1 := hst.cell 1 (by omega)
      have c2 := hst.cell 2 (by omega)
      have c3 := hst.cell 3 (by omega)
      have c4 := hst.cell 4 (by omega)
      have c5 := hst.cell 5 (by omega)
      have c6 := hst.cell 6 (by omega)
      have HRD := Lib.hid (show roundW s kn xn = [(t1F s kn xn + t2F s) % 18446744073709551616, s.getD 0 0, s.getD 1 0, s.getD 2 0, (s.getD 3 0 + t1F s kn xn) % 18446744073709551616, s.getD 4 0, s.getD 5 0, s.getD 6 0] from rfl)
      generalize t1F s kn xn = v1 at *
      generalize t2F s = v2 at *
      generalize s.getD 0 0 = s0 at *
      generalize s.getD 1 0 = s1 at *
      generalize s.getD 2 0 = s2 at *
      generalize s.getD 3 0 = s3 at *
      generalize s.getD 4 0 = s4 at *
      generalize s.getD 5 0 = s5 at *
      generalize s.getD 6 0 = s6 at *
      have hz0 : ((v1 : Int) + (v2 : Int)) % 18446744073709551616 = (((v1 + v2) % 18446744073709551616 : Nat) : Int) := by omega
      have hz4 : ((s3 : Int) + (v1 : Int)) % 18446744073709551616 = (((s3 + v1) % 18446744073709551616 : Nat) : Int) := by omega
      have hy0 : IntKind.u64.wrap ((v1 : Int) + (v2 : Int)) = (((v1 + v2) % 18446744073709551616 : Nat) : Int) := by rw [← hz0]; simp [IntKind.wrap, IntKind.bits, IntKind.signed]
      have hy4 : IntKind.u64.wrap ((s3 : Int) + (v1 : Int)) = (((s3 + v1) % 18446744073709551616 : Nat) : Int) := by rw [← hz4]; simp [IntKind.wrap, IntKind.bits, IntKind.signed]
      generalize (v1 + v2) % 18446744073709551616 = z0 at *
      generalize (s3 + v1) % 18446744073709551616 = z4 at *
      clear hst f0
      go_wp2_with (with_reducible refine stop_store (t := 81) rfl ?_)
      refine Lib.hid ?_
      refine wpList_store_rowTo rfl 81 _ _ rfl rfl (w.heap.size + 3) (nums .u64 [z0, s0, s1, s2, z4, s4, s5, s6]) rfl rfl 81 (nums .u64 s) HS6.out.st (by kernel_rfl) (by rw [nums_size, nums_size, hsl]; rfl) (nums_oneCell _ _) ?_
      have HNEW := Lib.hid (show StpS w h (rs (n + 1)) x rx (W6.setRow (w.heap.size + 3) (nums .u64 [z0, s0, s1, s2, z4, s4, s5, s6])) from
        ⟨Below.setRow HS6.out.bel _ (by omega) _, HS6.out.row.setRow_other _ _ (by omega), by rw [setRow_other _ _ _ _ (by omega)]; exact HS6.out.form, HS6.out.res.setRow_other _ _ (by omega), by rw [HRNN.out, HRD.out]; exact HS6.out.st.setRow _, HS6.out.xs.setRow_other _ _ (by omega)⟩)
      generalize W6.setRow (w.heap.size + 3) (nums .u64 [z0, s0, s1, s2, z4, s4, s5, s6]) = W7 at *
      clear hz0 hz4 hy0 hy4 c0 c1 c2 c3 c4 c5 c6
      go_wp2
      go_round
      case rel => exact ⟨n + 1, by omega, by go_num, HNEW.out⟩
      case measure => simp [intOf]; omega
end Go.Proofs.YtlbpodddokhmaaaGreat.Sha64
/-
  SHA-2's words of 64 bits: the walk of sum.
  Conditions: the package's numbers lie in memory; a size of these words.
-/
namespace Go.Proofs.YtlbpodddokhmaaaGreat.Sha64
open Go.ChangeShapes Go.WideShapes Go.ChangeAt Go.RowKit Go.Deep Go.Proofs.YtlbpodddokhmaaaGreat.Bw
open Go.Proofs.YtlbpodddokhmaaaGreat.Sha (roundsL firstsL GlobAt zeros zeros_length made_zeros numB numB_length number_any)
def Z (n : Nat) : List UInt8 := List.replicate n 0
theorem Z_length (n : Nat) : (Z n).length = n := List.length_replicate
theorem repeat_Z (c : Nat) : Lib.repeatL [0] c = Z c := by
  unfold Z
  induction c with
  | zero => rfl
  | succ n ih => simp [Lib.repeatL, ih, List.replicate_succ]
theorem Repeat_any (c : Nat) (w : World) (hc : c ≤ 1000) : Calls Tryz.prog 93 #[.string ⟨#[0]⟩, .int .i64 c] w fun e w' => e = .returned (.string (B (Z c))) ∧ Below w.heap.size w w' := by
  have h := Tryz.strings_Repeat ⟨#[0]⟩ c w (by omega) (by show 1 * c ≤ _; omega)
  rw [show (⟨#[0]⟩ : ByteArray).data.toList = [0] from rfl, repeat_Z] at h
  exact h
set_option maxRecDepth 100000 in
theorem formOf_any (size : Nat) (w : World) (hs : ((size : Int) == 256) = false) : Calls Tryz.prog 120 #[.int .i64 size] w fun e w' => e = .returned (.agg #[.int .i64 64, .int .i64 80, .int .i64 28, .int .i64 34, .int .i64 39, .int .i64 14, .int .i64 18, .int .i64 41, .int .i64 1, .int .i64 8, .int .i64 7, .int .i64 19, .int .i64 61, .int .i64 6]) ∧ Below w.heap.size w w' := by
  go_enter Tryz.func120, Tryz.ntmps120
  go_wp2_with (with_reducible refine stop_store (t := 166) rfl ?_)
  refine Lib.hid ?_
  refine wpList_store_rowTo rfl 166 _ _ rfl rfl w.heap.size #[.int .i64 64, .int .i64 80, .int .i64 28, .int .i64 34, .int .i64 39, .int .i64 14, .int .i64 18, .int .i64 41, .int .i64 1, .int .i64 8, .int .i64 7, .int .i64 19, .int .i64 61, .int .i64 6] rfl rfl 166 _ (heap_alloc_last w _) (by kernel_rfl) rfl (by kernel_rfl) ?_
  rw [World.setRow_alloc_new]
  go_wp2
  exact post_row w.heap.size Tryz.results120 166 _ _ rfl (heap_alloc_last w _) Tryz.underlying166 rfl (by kernel_rfl) rfl ⟨rfl, by ((repeat' (with_reducible first | exact Below.refl _ _ | assumption | refine Below.drew ?_ | refine below_drewN ?_ _ | refine Below.setCell ?_ ?_ _ | refine Below.alloc ?_ ?_ _ | refine Below.ext ?_ ?_ _ | refine Below.trans ?_ (Below.mono ‹_› ?_))) <;> first | omega | (simp; done) | (simp; omega))⟩
/-- The sizes of these words. -/
def SizeOk (size : Nat) : Prop := ((size : Int) == 256) = false ∧ (size = 256 ∨ size = 384 ∨ size = 512)
theorem SizeOk.le {size : Nat} (h : SizeOk size) : size / 8 ≤ 8 * 8 := by
  obtain ⟨h1, h2⟩ := h
  rcases h2 with rfl | rfl | rfl
  all_goals first
    | omega
    | (exfalso; revert h1; decide)
theorem Block_any (size : Nat) (w : World) (hs : SizeOk size) : Calls Tryz.prog 86 #[.int .i64 size] w fun e w' => e = .returned (.int .i64 128) ∧ w = w' := by
  obtain ⟨h1, h2⟩ := hs
  rcases h2 with rfl | rfl | rfl
  all_goals first
    | (exfalso; revert h1; decide)
    | (go_enter Tryz.func86, Tryz.ntmps86
       go_wp2
       go_ret
       exact ⟨rfl, rfl⟩)
theorem Size_any (size : Nat) (w : World) (hs : SizeOk size) : Calls Tryz.prog 125 #[.int .i64 size] w fun e w' => e = .returned (.int .i64 ((size / 8 : Nat) : Int)) ∧ w = w' := by
  have HB := Lib.hid fun W => Block_any size W hs
  obtain ⟨h1, h2⟩ := hs
  rcases h2 with rfl | rfl | rfl
  all_goals first
    | (exfalso; revert h1; decide)
    | (go_enter Tryz.func125, Tryz.ntmps125
       go_wp2_with fail
       refine Calls.mono (HB.out _) ?_
       rintro _ _ ⟨rfl, rfl⟩
       go_wp2
       go_ret
       exact ⟨rfl, rfl⟩)
/-- A text, filled up. -/
def padN (n : Nat) : Nat := (240 - (n + 1) % 128) % 128
def padB (b : List UInt8) : List UInt8 := (b ++ [128]) ++ (Z (padN b.length) ++ numB (8 * b.length) 16)
theorem padB_length (b : List UInt8) : (padB b).length = b.length + 1 + padN b.length + 16 := by
  simp only [padB, List.length_append, Z_length, numB_length, List.length_cons, List.length_nil]; omega
theorem padB_mod (b : List UInt8) : (padB b).length % 128 = 0 := by
  rw [padB_length]; unfold padN; omega
def blkB (l : List UInt8) (k : Nat) : List UInt8 := (l.drop (128 * k)).take 128
def sumN [Inhabited Go.Proofs.YtlbpodddokhmaaaGreat.Sha.Tabs] (fr : Nat) (l : List UInt8) : Nat → List Nat
  | 0 => beginL fr
  | k + 1 => stepW (sumN fr l k) tableL (blkB l k)
def wordsB (h : List Nat) : Nat → List UInt8
  | 0 => []
  | i + 1 => wordsB h i ++ numB (h.getD i 0) 8
def sumB [Inhabited Go.Proofs.YtlbpodddokhmaaaGreat.Sha.Tabs] (size fr : Nat) (b : List UInt8) : List UInt8 := (wordsB (sumN fr (padB b) ((padB b).length / 128)) 8).take (size / 8)
theorem stepW_words (h k : List Nat) (b : List UInt8) : Words (stepW h k b) := fun j => by
  unfold stepW
  by_cases hj : j < 8
  · rw [tab_get _ _ _ hj]; exact Nat.mod_lt _ (by omega)
  · rw [List.getD, List.getElem?_eq_none (by rw [tab_length]; omega)]; simp
theorem beginL_words [Inhabited Go.Proofs.YtlbpodddokhmaaaGreat.Sha.Tabs] (fr : Nat) : Words (beginL fr) := fun j => by
  unfold beginL
  by_cases hj : j < 8
  · rw [tab_get _ _ _ hj]; exact cutF_lt (firsts_lt _)
  · rw [List.getD, List.getElem?_eq_none (by rw [tab_length]; omega)]; simp
theorem sumN_words [Inhabited Go.Proofs.YtlbpodddokhmaaaGreat.Sha.Tabs] (fr : Nat) (l : List UInt8) : ∀ k, Words (sumN fr l k)
  | 0 => beginL_words fr
  | _ + 1 => stepW_words _ _ _
theorem sumN_length [Inhabited Go.Proofs.YtlbpodddokhmaaaGreat.Sha.Tabs] (fr : Nat) (l : List UInt8) : ∀ k, (sumN fr l k).length = 8
  | 0 => tab_length _ _
  | _ + 1 => tab_length _ _
theorem wordsB_length (h : List Nat) : ∀ i, (wordsB h i).length = i * 8
  | 0 => by simp [wordsB]
  | i + 1 => by rw [wordsB, List.length_append, wordsB_length h i, numB_length]; omega
theorem sumB_length [Inhabited Go.Proofs.YtlbpodddokhmaaaGreat.Sha.Tabs] (size fr : Nat) (b : List UInt8) (h : size / 8 ≤ 8 * 8) : (sumB size fr b).length = size / 8 := by
  rw [sumB, List.length_take, wordsB_length]; omega
theorem wpH_callE {P : Program} {Q : Exit → Act → World → Prop} {α : Type} {o : Oper} {a : Act} {w : World} {K : Act → World → Prop} (dst : Option Tmp) (hdst : o.dst = dst) (f : FuncId) (args : Array Value) (hrun : (execOp a.eval o).run P w = .ok (.enter f args) w) (v : α → Value) (R : α → World → Prop)
    (hc : Calls P f args w fun e w' => ∃ x, e = .returned (v x) ∧ R x w') (h : ∀ x w', R x w' → K (a.put dst (v x)) w') : o.wp P a w K Q := by
  subst hdst
  unfold Oper.wp
  rw [hrun]
  refine hc.mono ?_
  rintro _ w' ⟨x, rfl, hr⟩
  exact h x w' hr
theorem ne_form {W : World} {b fb : Nat} {l : List Nat} (h : NumsAt W b 81 .u64 l) (hf : W.heap[fb]? = some (.cells #[.int .i64 64, .int .i64 80, .int .i64 28, .int .i64 34, .int .i64 39, .int .i64 14, .int .i64 18, .int .i64 41, .int .i64 1, .int .i64 8, .int .i64 7, .int .i64 19, .int .i64 61, .int .i64 6] 166 (0, 0))) : ¬ b = fb := fun e => by
  subst e
  unfold NumsAt at h
  rw [h] at hf
  simp only [Option.some.injEq, Obj.cells.injEq] at hf
  exact absurd hf.2.1 (by decide)
/-- What sum's regions keep. -/
def SumS (w : World) (fb : Nat) (W : World) : Prop := Below w.heap.size w W ∧ W.heap[fb]? = some (.cells #[.int .i64 64, .int .i64 80, .int .i64 28, .int .i64 34, .int .i64 39, .int .i64 14, .int .i64 18, .int .i64 41, .int .i64 1, .int .i64 8, .int .i64 7, .int .i64 19, .int .i64 61, .int .i64 6] 166 (0, 0))
theorem SumS.keep {w : World} {fb : Nat} (W W1 : World) (h : SumS w fb W) (hb : Below W.heap.size W W1) : SumS w fb W1 :=
  ⟨h.1.trans (hb.mono h.1.size), below_heap hb (lt_of_heap h.2) h.2⟩
set_option maxHeartbeats 3200000 in
set_option maxRecDepth 100000 in
theorem sum_any [Inhabited Go.Proofs.YtlbpodddokhmaaaGreat.Sha.Tabs] (size fr : Nat) (b : List UInt8) (w : World) (hg : GlobAt w) (hs : SizeOk size) (hfr : (((size : Int) == 384) = true ∧ fr = 1) ∨ (((size : Int) == 384) = false ∧ fr = 0)) (hbl : b.length ≤ 1000000) :
    Calls Tryz.prog 100 #[.int .i64 size, .string (B b)] w fun e w' => e = .returned (.string (B (sumB size fr b))) ∧ Below w.heap.size w w' := by
  have HFO := Lib.hid fun W => formOf_any size W hs.1
  have HBK := Lib.hid fun W => Block_any size W hs
  have HSZ := Lib.hid fun W => Size_any size W hs
  obtain ⟨m, hm⟩ : ∃ m, m = size / 8 := ⟨_, rfl⟩
  have hm8 : m ≤ 8 * 8 := by rw [hm]; exact hs.le
  rw [← hm] at HSZ
  have HM := Lib.hid hm
  clear hm
  have HGW := Lib.hid hg
  have HFR := Lib.hid hfr
  have HREP := Lib.hid (show ∀ W, Calls Tryz.prog 93 #[.string ⟨#[0]⟩, .int .i64 (padN b.length : Nat)] W fun e w' => e = .returned (.string (B (Z (padN b.length)))) ∧ Below W.heap.size W w' from fun W => Repeat_any _ W (by unfold padN; omega))
  have HNUM := Lib.hid (show ∀ W, Calls Tryz.prog 121 #[.int .u64 ((8 * b.length : Nat) : Int), .int .i64 16] W fun e w' => e = .returned (.string (B (numB (8 * b.length) 16))) ∧ Below W.heap.size W w' from fun W => number_any _ 16 W (by omega))
  have hpn : (240 - ((b.length : Int) + 1) % 128) % 128 = ((padN b.length : Nat) : Int) := by unfold padN; omega
  have hpl : padN b.length < 128 := Nat.mod_lt _ (by omega)
  clear hs hfr hg
  go_enter Tryz.func100, Tryz.ntmps100
  go_wp2_with fail
  refine Calls.ext (HFO.out _) fun u1 => ?_
  go_wp2_with fail
  refine Calls.mono (HBK.out _) ?_
  rintro _ _ ⟨rfl, rfl⟩
  go_wp2_with (with_reducible refine stop_store (t := 166) rfl ?_)
  refine Lib.hid ?_
  have hV : w.heap.size + more u1 = (ext w u1).heap.size := by simp
  have HBV : Below w.heap.size w (ext w u1) := ext_below w u1
  generalize ext w u1 = V at *
  generalize w.heap.size + more u1 = fb at *
  subst hV
  refine wpList_store_rowTo rfl 166 _ _ rfl rfl V.heap.size #[.int .i64 64, .int .i64 80, .int .i64 28, .int .i64 34, .int .i64 39, .int .i64 14, .int .i64 18, .int .i64 41, .int .i64 1, .int .i64 8, .int .i64 7, .int .i64 19, .int .i64 61, .int .i64 6] rfl rfl 166 _ (heap_alloc_last V _) (by kernel_rfl) rfl (by kernel_rfl) ?_
  rw [World.setRow_alloc_new]
  have hform : (V.alloc (.cells #[.int .i64 64, .int .i64 80, .int .i64 28, .int .i64 34, .int .i64 39, .int .i64 14, .int .i64 18, .int .i64 41, .int .i64 1, .int .i64 8, .int .i64 7, .int .i64 19, .int .i64 61, .int .i64 6] 166)).heap[V.heap.size]? = some (.cells #[.int .i64 64, .int .i64 80, .int .i64 28, .int .i64 34, .int .i64 39, .int .i64 14, .int .i64 18, .int .i64 41, .int .i64 1, .int .i64 8, .int .i64 7, .int .i64 19, .int .i64 61, .int .i64 6] 166 (0, 0)) := heap_alloc_last V _
  have hbel : Below w.heap.size w (V.alloc (.cells #[.int .i64 64, .int .i64 80, .int .i64 28, .int .i64 34, .int .i64 39, .int .i64 14, .int .i64 18, .int .i64 41, .int .i64 1, .int .i64 8, .int .i64 7, .int .i64 19, .int .i64 61, .int .i64 6] 166)) := HBV.alloc HBV.size _
  have hfbw : w.heap.size ≤ V.heap.size := HBV.size
  generalize V.alloc (.cells #[.int .i64 64, .int .i64 80, .int .i64 28, .int .i64 34, .int .i64 39, .int .i64 14, .int .i64 18, .int .i64 41, .int .i64 1, .int .i64 8, .int .i64 7, .int .i64 19, .int .i64 61, .int .i64 6] 166) = W1 at *
  generalize V.heap.size = fb at *
  clear HBV V HFO
  have hcat1 : ¬ 9223372036854775807 < b.length + 1 := by omega
  have hcat2 : ¬ 9223372036854775807 < padN b.length + 16 := by omega
  have hcat3 : ¬ 9223372036854775807 < b.length + 1 + (padN b.length + 16) := by omega
  have HZL := Lib.hid (Z_length (padN b.length))
  have HNL := Lib.hid (numB_length (8 * b.length) 16)
  have HPB := Lib.hid (show padB b = b ++ 128 :: (Z (padN b.length) ++ numB (8 * b.length) 16) by simp [padB])
  have HPL := Lib.hid (padB_length b)
  have HPM := Lib.hid (padB_mod b)
  obtain ⟨n8, h8⟩ : ∃ n8, n8 = 8 * b.length := ⟨_, rfl⟩
  have hnum : (8 : Int) * (b.length : Int) = (n8 : Int) := by omega
  have hwn : IntKind.u64.wrap (n8 : Int) = (n8 : Int) := wrap64u _ (by omega)
  have hwn2 : IntKind.u64.wrap (b.length : Int) = (b.length : Int) := wrap64u _ (by omega)
  rw [← h8] at HNUM HNL HPB
  have H8 := Lib.hid h8
  clear h8
  go_wp2_with fail
  refine Calls.below (HREP.out _) fun W2 hW2 => ?_
  go_wp2_with fail
  refine Calls.below (HNUM.out _) fun W3 hW3 => ?_
  replace hform := below_heap (hW2.trans (hW3.mono hW2.size)) (lt_of_heap hform) hform
  replace hbel := (hbel.trans (hW2.mono hbel.size)).trans (hW3.mono (hbel.trans (hW2.mono hbel.size)).size)
  have hzl := HZL.out
  have hnl := HNL.out
  go_upto_region 5 with fail
  rw [← HPB.out]
  have hGl := HGW.out.below hbel
  have HBEG := Lib.hid (show ∀ W, GlobAt W → Calls Tryz.prog 126 #[.int .i64 size, .agg #[.int .i64 64, .int .i64 80, .int .i64 28, .int .i64 34, .int .i64 39, .int .i64 14, .int .i64 18, .int .i64 41, .int .i64 1, .int .i64 8, .int .i64 7, .int .i64 19, .int .i64 61, .int .i64 6]] W fun e w' => e = .returned (.agg (nums .u64 (beginL fr))) ∧ Below W.heap.size W w' from fun W h => begin_any size fr W h HFR.out)
  have HTAB := Lib.hid (show ∀ W, GlobAt W → Calls Tryz.prog 127 #[.agg #[.int .i64 64, .int .i64 80, .int .i64 28, .int .i64 34, .int .i64 39, .int .i64 14, .int .i64 18, .int .i64 41, .int .i64 1, .int .i64 8, .int .i64 7, .int .i64 19, .int .i64 61, .int .i64 6]] W fun e w' => ∃ tb : Nat, e = .returned (.slice (some ⟨tb, 0, none⟩) 80 80) ∧ NumsAt w' tb 76 .u64 tableL ∧ W.heap.size ≤ tb ∧ Below W.heap.size W w' from fun W h => table_any W h)
  have hbgl := sumN_length fr (padB b) 0
  have HPL2 := Lib.hid (show (padB b).length ≤ 1000400 by rw [padB_length]; omega)
  have HSB := Lib.hid (show sumB size fr b = (wordsB (sumN fr (padB b) ((padB b).length / 128)) 8).take m by rw [HM.out]; rfl)
  clear hzl hnl hpn hpl hcat1 hcat2 hcat3 hnum hwn hwn2
  generalize padB b = all at *
  generalize hres : sumB size fr b = res at *
  have HRES := Lib.hid hres
  clear hres
  have hBG : (beginL fr).length = 8 := tab_length _ _
  go_cut [9, 10] from 14 to 47 (fun s9 s10 W => ∃ hb tb : Nat, s9 = .pointer (some ⟨hb, 0, none⟩) ∧ s10 = .slice (some ⟨tb, 0, none⟩) 80 80 ∧ NumsAt W hb 81 .u64 (beginL fr) ∧ NumsAt W tb 76 .u64 tableL ∧ tb ≠ hb ∧ w.heap.size ≤ hb ∧ w.heap.size ≤ tb ∧ SumS w fb W)
  case first =>
    have hS : SumS w fb W3.drew := ⟨hbel.drew, hform⟩
    refine wp_region_held (S := fun W => SumS w fb W) (by kernel_rfl) ?_
    change wpAnyH _ _ _ _ _ _ _ _ W3.drew
    refine takeH 0 rfl rfl (some 43) rfl (.int .i64 size) (by kernel_rfl) (by kernel_rfl) (by kernel_rfl) (fun _ _ _ h => h) (fun _ _ => rfl) hS ?_
    simp only [Act.put, List.setIfInBounds_toArray, List.set_cons_zero, List.set_cons_succ]
    refine takeH 1 rfl rfl (some 44) rfl (.agg #[.int .i64 64, .int .i64 80, .int .i64 28, .int .i64 34, .int .i64 39, .int .i64 14, .int .i64 18, .int .i64 41, .int .i64 1, .int .i64 8, .int .i64 7, .int .i64 19, .int .i64 61, .int .i64 6]) (by kernel_rfl) (by kernel_rfl) (by kernel_rfl) (fun _ _ _ h => h) (fun w1 h1 => runForm _ rfl rfl h1.2) hS ?_
    simp only [Act.put, List.setIfInBounds_toArray, List.set_cons_zero, List.set_cons_succ]
    refine takeH 3 rfl rfl (some 46) rfl (.agg #[.int .i64 64, .int .i64 80, .int .i64 28, .int .i64 34, .int .i64 39, .int .i64 14, .int .i64 18, .int .i64 41, .int .i64 1, .int .i64 8, .int .i64 7, .int .i64 19, .int .i64 61, .int .i64 6]) (by kernel_rfl) (by kernel_rfl) (by kernel_rfl) (fun _ _ _ h => h) (fun w1 h1 => runForm _ rfl rfl h1.2) hS ?_
    simp only [Act.put, List.setIfInBounds_toArray, List.set_cons_zero, List.set_cons_succ]
    refine twoH 2 5 rfl rfl rfl rfl (by kernel_rfl) (fun K hK => ?_) (fun K hK => ?_)
    · refine wpH_call (some 45) rfl 126 #[.int .i64 size, .agg #[.int .i64 64, .int .i64 80, .int .i64 28, .int .i64 34, .int .i64 39, .int .i64 14, .int .i64 18, .int .i64 41, .int .i64 1, .int .i64 8, .int .i64 7, .int .i64 19, .int .i64 61, .int .i64 6]] (by kernel_rfl) _ _ (HBEG.out _ hGl) fun Wb hWb => ?_
      simp only [Act.put, List.setIfInBounds_toArray, List.set_cons_zero, List.set_cons_succ]
      have hSb := SumS.keep _ Wb hS hWb
      refine hK _ _ hSb fun _ => ?_
      clear hK K
      refine twoH 4 5 rfl rfl rfl rfl (by kernel_rfl) (fun K hK => ?_) (fun K hK => ?_)
      · refine wpH_callE (some 47) rfl 127 #[.agg #[.int .i64 64, .int .i64 80, .int .i64 28, .int .i64 34, .int .i64 39, .int .i64 14, .int .i64 18, .int .i64 41, .int .i64 1, .int .i64 8, .int .i64 7, .int .i64 19, .int .i64 61, .int .i64 6]] (by kernel_rfl) (fun tb : Nat => Value.slice (some ⟨tb, 0, none⟩) 80 80) _ (HTAB.out _ (HGW.out.below hSb.1)) fun tb Wt hWt => ?_
        simp only [Act.put, List.setIfInBounds_toArray, List.set_cons_zero, List.set_cons_succ]
        obtain ⟨htab, htb1, hWt⟩ := hWt
        have hSt := SumS.keep _ Wt hSb hWt
        refine hK _ _ hSt fun _ => ?_
        clear hK K
        refine oneH 5 rfl rfl (by kernel_rfl) fun K hK => ?_
        have hSa : SumS w fb (Wt.alloc (.cells (nums .u64 (zeros 8)) 81)) := ⟨hSt.1.alloc hSt.1.size _, heap_under hSt.2⟩
        refine wpH_run (w' := Wt.alloc (.cells (nums .u64 (zeros 8)) 81)) (some 9) rfl (.pointer (some ⟨Wt.heap.size, 0, none⟩)) (by kernel_rfl) ?_
        simp only [Act.put, List.setIfInBounds_toArray, List.set_cons_zero, List.set_cons_succ]
        refine hK _ _ hSa fun _ => ?_
        clear hK K
        have hrow9 : NumsAt (Wt.alloc (.cells (nums .u64 (zeros 8)) 81)) Wt.heap.size 81 .u64 (zeros 8) := NumsAt.new Wt _ _ _
        have htab9 : NumsAt (Wt.alloc (.cells (nums .u64 (zeros 8)) 81)) tb 76 .u64 tableL := htab.alloc _
        have hS9 : SumS w fb ((Wt.alloc (.cells (nums .u64 (zeros 8)) 81)).setRow Wt.heap.size (nums .u64 (beginL fr))) := ⟨Below.setRow hSa.1 _ hSt.1.size _, by rw [setRow_other _ _ _ _ (by have := hSa.2; intro e; rw [← e] at this; unfold NumsAt at hrow9; rw [hrow9] at this; exact absurd (congrArg (fun o => match o with | some (Obj.cells _ t _) => t | _ => 0) this) (by decide))]; exact hSa.2⟩
        refine oneH 6 rfl rfl (by kernel_rfl) fun K hK => ?_
        refine wpH_store rfl 81 _ _ rfl Wt.heap.size (nums .u64 (beginL fr)) (nums .u64 (zeros 8)) 81 rfl rfl hrow9 (by rw [nums_size, hBG]; kernel_rfl) (by rw [nums_size, nums_size, hBG, zeros_length]) (nums_oneCell _ _) ?_
        refine hK _ _ hS9 fun _ => ?_
        clear hK K
        refine oneH 7 rfl rfl (by kernel_rfl) fun K hK => ?_
        refine wpH_run (some 10) rfl (.slice (some ⟨tb, 0, none⟩) 80 80) rfl ?_
        simp only [Act.put, List.setIfInBounds_toArray, List.set_cons_zero, List.set_cons_succ]
        refine hK _ _ hS9 fun _ => ?_
        clear hK K
        refine wpAnyH_done (by kernel_rfl) ?_ _
        go_wp2
        go_meet
        exact ⟨_, tb, rfl, rfl, hrow9.setRow _, htab9.setRow_other _ _ (by have := htab.lt; omega), (by have := htab.lt; omega), hSt.1.size, (Nat.le_trans hSb.1.size htb1), hS9⟩
      · have hSa : SumS w fb (Wb.alloc (.cells (nums .u64 (zeros 8)) 81)) := ⟨hSb.1.alloc hSb.1.size _, heap_under hSb.2⟩
        refine wpH_run (w' := Wb.alloc (.cells (nums .u64 (zeros 8)) 81)) (some 9) rfl (.pointer (some ⟨Wb.heap.size, 0, none⟩)) (by kernel_rfl) ?_
        simp only [Act.put, List.setIfInBounds_toArray, List.set_cons_zero, List.set_cons_succ]
        refine hK _ _ hSa fun _ => ?_
        clear hK K
        refine oneH 4 rfl rfl (by kernel_rfl) fun K hK => ?_
        refine wpH_callE (some 47) rfl 127 #[.agg #[.int .i64 64, .int .i64 80, .int .i64 28, .int .i64 34, .int .i64 39, .int .i64 14, .int .i64 18, .int .i64 41, .int .i64 1, .int .i64 8, .int .i64 7, .int .i64 19, .int .i64 61, .int .i64 6]] (by kernel_rfl) (fun tb : Nat => Value.slice (some ⟨tb, 0, none⟩) 80 80) _ (HTAB.out _ (HGW.out.below hSa.1)) fun tb Wt hWt => ?_
        simp only [Act.put, List.setIfInBounds_toArray, List.set_cons_zero, List.set_cons_succ]
        obtain ⟨htab, htb1, hWt⟩ := hWt
        have hSt := SumS.keep _ Wt hSa hWt
        refine hK _ _ hSt fun _ => ?_
        clear hK K
        have hrow9 : NumsAt Wt Wb.heap.size 81 .u64 (zeros 8) := (NumsAt.new Wb _ _ _).below hWt
        have htab9 : NumsAt Wt tb 76 .u64 tableL := htab
        have hS9 : SumS w fb (Wt.setRow Wb.heap.size (nums .u64 (beginL fr))) := ⟨Below.setRow hSt.1 _ hSb.1.size _, by rw [setRow_other _ _ _ _ (by have := hSt.2; intro e; rw [← e] at this; unfold NumsAt at hrow9; rw [hrow9] at this; exact absurd (congrArg (fun o => match o with | some (Obj.cells _ t _) => t | _ => 0) this) (by decide))]; exact hSt.2⟩
        refine oneH 6 rfl rfl (by kernel_rfl) fun K hK => ?_
        refine wpH_store rfl 81 _ _ rfl Wb.heap.size (nums .u64 (beginL fr)) (nums .u64 (zeros 8)) 81 rfl rfl hrow9 (by rw [nums_size, hBG]; kernel_rfl) (by rw [nums_size, nums_size, hBG, zeros_length]) (nums_oneCell _ _) ?_
        refine hK _ _ hS9 fun _ => ?_
        clear hK K
        refine oneH 7 rfl rfl (by kernel_rfl) fun K hK => ?_
        refine wpH_run (some 10) rfl (.slice (some ⟨tb, 0, none⟩) 80 80) rfl ?_
        simp only [Act.put, List.setIfInBounds_toArray, List.set_cons_zero, List.set_cons_succ]
        refine hK _ _ hS9 fun _ => ?_
        clear hK K
        refine wpAnyH_done (by kernel_rfl) ?_ _
        go_wp2
        go_meet
        exact ⟨_, tb, rfl, rfl, hrow9.setRow _, htab9.setRow_other _ _ (by have : Wb.heap.size < (Wb.alloc (.cells (nums .u64 (zeros 8)) 81)).heap.size := (NumsAt.new Wb _ _ _).lt; omega), (by have : Wb.heap.size < (Wb.alloc (.cells (nums .u64 (zeros 8)) 81)).heap.size := (NumsAt.new Wb _ _ _).lt; omega), hSb.1.size, (Nat.le_trans hSa.1.size htb1), hS9⟩
    · have hSa : SumS w fb (W3.drew.alloc (.cells (nums .u64 (zeros 8)) 81)) := ⟨hS.1.alloc hS.1.size _, heap_under hS.2⟩
      refine wpH_run (w' := W3.drew.alloc (.cells (nums .u64 (zeros 8)) 81)) (some 9) rfl (.pointer (some ⟨W3.drew.heap.size, 0, none⟩)) (by kernel_rfl) ?_
      simp only [Act.put, List.setIfInBounds_toArray, List.set_cons_zero, List.set_cons_succ]
      refine hK _ _ hSa fun _ => ?_
      clear hK K
      refine oneH 2 rfl rfl (by kernel_rfl) fun K hK => ?_
      refine wpH_call (some 45) rfl 126 #[.int .i64 size, .agg #[.int .i64 64, .int .i64 80, .int .i64 28, .int .i64 34, .int .i64 39, .int .i64 14, .int .i64 18, .int .i64 41, .int .i64 1, .int .i64 8, .int .i64 7, .int .i64 19, .int .i64 61, .int .i64 6]] (by kernel_rfl) _ _ (HBEG.out _ (HGW.out.below hSa.1)) fun Wb hWb => ?_
      simp only [Act.put, List.setIfInBounds_toArray, List.set_cons_zero, List.set_cons_succ]
      have hSb := SumS.keep _ Wb hSa hWb
      refine hK _ _ hSb fun _ => ?_
      clear hK K
      refine oneH 4 rfl rfl (by kernel_rfl) fun K hK => ?_
      refine wpH_callE (some 47) rfl 127 #[.agg #[.int .i64 64, .int .i64 80, .int .i64 28, .int .i64 34, .int .i64 39, .int .i64 14, .int .i64 18, .int .i64 41, .int .i64 1, .int .i64 8, .int .i64 7, .int .i64 19, .int .i64 61, .int .i64 6]] (by kernel_rfl) (fun tb : Nat => Value.slice (some ⟨tb, 0, none⟩) 80 80) _ (HTAB.out _ (HGW.out.below hSb.1)) fun tb Wt hWt => ?_
      simp only [Act.put, List.setIfInBounds_toArray, List.set_cons_zero, List.set_cons_succ]
      obtain ⟨htab, htb1, hWt⟩ := hWt
      have hSt := SumS.keep _ Wt hSb hWt
      refine hK _ _ hSt fun _ => ?_
      clear hK K
      have hrow9 : NumsAt Wt W3.drew.heap.size 81 .u64 (zeros 8) := ((NumsAt.new W3.drew _ _ _).below hWb).below hWt
      have htab9 : NumsAt Wt tb 76 .u64 tableL := htab
      have hS9 : SumS w fb (Wt.setRow W3.drew.heap.size (nums .u64 (beginL fr))) := ⟨Below.setRow hSt.1 _ hS.1.size _, by rw [setRow_other _ _ _ _ (by have := hSt.2; intro e; rw [← e] at this; unfold NumsAt at hrow9; rw [hrow9] at this; exact absurd (congrArg (fun o => match o with | some (Obj.cells _ t _) => t | _ => 0) this) (by decide))]; exact hSt.2⟩
      refine oneH 6 rfl rfl (by kernel_rfl) fun K hK => ?_
      refine wpH_store rfl 81 _ _ rfl W3.drew.heap.size (nums .u64 (beginL fr)) (nums .u64 (zeros 8)) 81 rfl rfl hrow9 (by rw [nums_size, hBG]; kernel_rfl) (by rw [nums_size, nums_size, hBG, zeros_length]) (nums_oneCell _ _) ?_
      refine hK _ _ hS9 fun _ => ?_
      clear hK K
      refine oneH 7 rfl rfl (by kernel_rfl) fun K hK => ?_
      refine wpH_run (some 10) rfl (.slice (some ⟨tb, 0, none⟩) 80 80) rfl ?_
      simp only [Act.put, List.setIfInBounds_toArray, List.set_cons_zero, List.set_cons_succ]
      refine hK _ _ hS9 fun _ => ?_
      clear hK K
      refine wpAnyH_done (by kernel_rfl) ?_ _
      go_wp2
      go_meet
      exact ⟨_, tb, rfl, rfl, hrow9.setRow _, htab9.setRow_other _ _ (by have h1 := ((NumsAt.new W3.drew 81 .u64 (zeros 8)).below hWb).lt; omega), (by have h1 := ((NumsAt.new W3.drew 81 .u64 (zeros 8)).below hWb).lt; omega), hS.1.size, (Nat.le_trans hSb.1.size htb1), hS9⟩
  case rest =>
    obtain ⟨hb, tb, rfl, rfl, hrow, htab, hne, hhb, htb1, hS⟩ := hcut
    have HSTEP := Lib.hid (show ∀ k W, 64 * 0 + 128 * k + 128 ≤ all.length → NumsAt W tb 76 .u64 tableL → Calls Tryz.prog 128 #[.agg (nums .u64 (sumN fr all k)), .slice (some ⟨tb, 0, none⟩) 80 80, .string (B (blkB all k)), .agg #[.int .i64 64, .int .i64 80, .int .i64 28, .int .i64 34, .int .i64 39, .int .i64 14, .int .i64 18, .int .i64 41, .int .i64 1, .int .i64 8, .int .i64 7, .int .i64 19, .int .i64 61, .int .i64 6]] W fun e w' => e = .returned (.agg (nums .u64 (sumN fr all (k + 1)))) ∧ Below W.heap.size W w' from
      fun k W hk ht => step_any (sumN fr all k) tableL (blkB all k) tb W (sumN_length _ _ _) (sumN_words _ _ _) (tab_length _ _) ht (by rw [blkB, List.length_take, List.length_drop]; omega))
    have HSNL := Lib.hid (sumN_length fr all)
    have HDONE := Lib.hid HSB.out
    clear HBEG HTAB hBG hbgl hGl HREP HNUM HGW hform hbel HSB
    go_wp2
    go_loopw [8] (fun s8 wr => ∃ k : Nat, 128 * k ≤ all.length ∧ s8 = .string (B (all.drop (128 * k))) ∧ NumsAt wr hb 81 .u64 (sumN fr all k) ∧ NumsAt wr tb 76 .u64 tableL ∧ SumS w fb wr) (fun s _ => match s with | .string b => b.size | _ => 0)
    case atStart => exact ⟨0, by omega, by simp, hrow, htab, hS⟩
    case round =>
      clear hrow htab hS wc
      obtain ⟨k, hk, rfl, hrow, htab, hS⟩ := hrel
      have hpm := HPM.out
      have hhl := HSNL.out k
      by_cases hend : all.length ≤ 128 * k
      · have hkk : all.length / 128 = k := by omega
        rw [show all.drop (128 * k) = [] from List.drop_eq_nil_of_le hend]
        have HKK := Lib.hid hkk
        have HD := Lib.hid (show res = (wordsB (sumN fr all k) 8).take m by rw [HDONE.out, hkk])
        clear hend hkk hpm hk
        have HNUMW := Lib.hid (show ∀ i W, Calls Tryz.prog 121 #[.int .u64 (((sumN fr all k).getD i 0 : Nat) : Int), .int .i64 8] W fun e w' => e = .returned (.string (B (numB ((sumN fr all k).getD i 0) 8))) ∧ Below W.heap.size W w' from fun i W => number_any _ 8 W (by omega))
        have HWL := Lib.hid (wordsB_length (sumN fr all k))
        have HWS := Lib.hid (show ∀ i, wordsB (sumN fr all k) (i + 1) = wordsB (sumN fr all k) i ++ numB ((sumN fr all k).getD i 0) 8 from fun _ => rfl)
        have HWW := Lib.hid (sumN_words fr all k)
        have HSTR := Lib.hid (show wordsB (sumN fr all k) 0 = [] from rfl)
        go_upto_region 10 with fail
        apply wp_region_lit (l := [_, _])
        refine wpList_load_rowTo rfl _ rfl 81 _ rfl hb rfl (nums .u64 (sumN fr all k)) 81 (0, 0) hrow _ Tryz.underlying81 rfl (by rw [nums_size, hhl]; kernel_rfl) ?_
        generalize sumN fr all k = H at *
        generalize wordsB H = ws at *
        go_wp2
        have hS9 := hS
        clear hS hrow htab
        generalize wr = W9 at *
        go_loopw [11, 61] (fun s11 s61 wq => ∃ i : Nat, i ≤ 8 ∧ s61 = .int .i64 i ∧ s11 = .string (B (ws i)) ∧ SumS w fb wq) (fun _ s _ => 8 - (intOf s).toNat)
        case atStart => exact ⟨0, by omega, rfl, by rw [HSTR.out]; rfl, hS9⟩
        case round =>
          clear hS9
          obtain ⟨i, hi, rfl, rfl, hS⟩ := hrel
          have hwl := HWL.out i
          by_cases hi8 : i = 8
          · have hlt8 : ¬ (i : Int) < 8 := by omega
            subst hi8
            go_wp2_with fail
            refine Calls.mono (HSZ.out _) ?_
            rintro _ _ ⟨rfl, rfl⟩
            have hmi : (m : Int) ≤ ((ws 8).length : Int) := by omega
            have hwl8 := hwl
            clear hwl hwl8
            go_wp2
            go_ret
            exact ⟨by rw [HRES.out, HD.out]; rfl, hS.1⟩
          · have hlt8 : (i : Int) < 8 := by omega
            have hidx := fun W => index_nums (P := Tryz.prog) W 81 76 8 i .u64 .i64 (nums .u64 H) _ Tryz.underlying81 Tryz.underlying76 (by kernel_rfl) (by omega) (nums_getD .u64 (by omega))
            have hfc : wr.cell? ⟨fb, 0, none⟩ = some (.int .i64 64) := by rw [cell_of_row wr fb 0 _ _ _ hS.2]; rfl
            have hvl := HWW.out i
            have HNI := Lib.hid (HNUMW.out i)
            have HWSI := Lib.hid (HWS.out i)
            have hnl := numB_length (H.getD i 0) 8
            have hcat : ¬ 9223372036854775807 < (ws i).length + (numB (H.getD i 0) 8).length := by omega
            generalize numB (H.getD i 0) 8 = nb at *
            generalize H.getD i 0 = v at *
            have hwv : IntKind.u64.wrap (v : Int) = (v : Int) := wrap64u _ (by omega)
            have hS10 := Lib.hid hS
            clear hwl hnl hS
            go_wp2_with fail
            refine Calls.below (HNI.out _) fun W10 hW10 => ?_
            go_wp2
            go_round
            case rel => exact ⟨i + 1, by omega, by go_num, by rw [HWSI.out], SumS.keep _ _ hS10.out hW10⟩
            case measure => simp [intOf]; omega
      · have hlt : 128 * k + 128 ≤ all.length := by omega
        have hemp : (all.drop (128 * k)).isEmpty = false := by
          rw [List.isEmpty_eq_false_iff]
          intro e
          have := congrArg List.length e
          rw [List.length_drop] at this
          simp at this
          omega
        obtain ⟨cur, hcur⟩ : ∃ cur, cur = all.drop (128 * k) := ⟨_, rfl⟩
        have hcl : cur.length = all.length - 128 * k := by rw [hcur, List.length_drop]
        have hclb : 128 ≤ cur.length := by omega
        have hcli : (128 : Int) ≤ (cur.length : Int) := by omega
        have HB1 := Lib.hid (show cur.take 128 = blkB all k by rw [hcur]; rfl)
        have HB2 := Lib.hid (show cur.drop 128 = all.drop (128 * (k + 1)) by rw [hcur, List.drop_drop, Nat.mul_add])
        have HCL := Lib.hid hcl
        have HLT := Lib.hid hlt
        rw [← hcur] at hemp ⊢
        have HCU := Lib.hid hcur
        clear hcur hcl hlt hend hpm hk
        go_upto_region 8 with fail
        have hS8 : SumS w fb wr.drew := ⟨hS.1.drew, hS.2⟩
        refine wp_region_held (S := fun W => SumS w fb W) (by kernel_rfl) ?_
        change wpAnyH _ _ _ _ _ _ _ _ wr.drew
        refine takeH 1 rfl rfl (some 54) rfl (.slice (some ⟨tb, 0, none⟩) 80 80) (by kernel_rfl) (by kernel_rfl) (by kernel_rfl) (fun _ _ _ h => h) (fun _ _ => rfl) hS8 ?_
        simp only [Act.put, List.setIfInBounds_toArray, List.set_cons_zero, List.set_cons_succ]
        refine takeH 2 rfl rfl (some 55) rfl (.string (B cur)) (by kernel_rfl) (by kernel_rfl) (by kernel_rfl) (fun _ _ _ h => h) (fun _ _ => rfl) hS8 ?_
        simp only [Act.put, List.setIfInBounds_toArray, List.set_cons_zero, List.set_cons_succ]
        refine takeH 3 rfl rfl (some 56) rfl (.int .i64 128) (by kernel_rfl) (by kernel_rfl) (by kernel_rfl) (fun _ _ _ h => h) (fun _ _ => rfl) hS8 ?_
        simp only [Act.put, List.setIfInBounds_toArray, List.set_cons_zero, List.set_cons_succ]
        refine takeH 4 rfl rfl (some 57) rfl (.string (B (blkB all k))) (by kernel_rfl) (by kernel_rfl) (by kernel_rfl) (fun _ _ _ h => h) (fun w1 _ => by rw [← HB1.out]; go_simp) hS8 ?_
        simp only [Act.put, List.setIfInBounds_toArray, List.set_cons_zero, List.set_cons_succ]
        refine takeH 5 rfl rfl (some 58) rfl (.agg #[.int .i64 64, .int .i64 80, .int .i64 28, .int .i64 34, .int .i64 39, .int .i64 14, .int .i64 18, .int .i64 41, .int .i64 1, .int .i64 8, .int .i64 7, .int .i64 19, .int .i64 61, .int .i64 6]) (by kernel_rfl) (by kernel_rfl) (by kernel_rfl) (fun _ _ _ h => h) (fun w1 h1 => runForm _ rfl rfl h1.2) hS8 ?_
        simp only [Act.put, List.setIfInBounds_toArray, List.set_cons_zero, List.set_cons_succ]
        refine oneH 0 rfl rfl (by kernel_rfl) fun K hK => ?_
        refine wpH_run (w' := wr.drew) (some 53) rfl (.agg (nums .u64 (sumN fr all k))) (run_load_row 81 _ rfl hb rfl _ _ _ hrow.drew _ Tryz.underlying81 rfl (by rw [nums_size, hhl]; kernel_rfl)) ?_
        simp only [Act.put, List.setIfInBounds_toArray, List.set_cons_zero, List.set_cons_succ]
        refine hK _ _ hS8 fun _ => ?_
        clear hK K
        refine oneH 6 rfl rfl (by kernel_rfl) fun K hK => ?_
        refine wpH_call (some 59) rfl 128 #[.agg (nums .u64 (sumN fr all k)), .slice (some ⟨tb, 0, none⟩) 80 80, .string (B (blkB all k)), .agg #[.int .i64 64, .int .i64 80, .int .i64 28, .int .i64 34, .int .i64 39, .int .i64 14, .int .i64 18, .int .i64 41, .int .i64 1, .int .i64 8, .int .i64 7, .int .i64 19, .int .i64 61, .int .i64 6]] (by kernel_rfl) _ _ (HSTEP.out k wr.drew (by have := HLT.out; omega) htab.drew) fun Wc1 hWc1 => ?_
        simp only [Act.put, List.setIfInBounds_toArray, List.set_cons_zero, List.set_cons_succ]
        have hSc1 := SumS.keep wr.drew Wc1 hS8 hWc1
        refine hK _ _ hSc1 fun _ => ?_
        clear hK K
        have hrow9 := hrow.drew.below hWc1
        have htab9 := htab.drew.below hWc1
        have hhl1 := HSNL.out (k + 1)
        have hS9 : SumS w fb (Wc1.setRow hb (nums .u64 (sumN fr all (k + 1)))) := ⟨Below.setRow hSc1.1 _ hhb _, by rw [setRow_other _ _ _ _ (ne_form hrow9 hSc1.2)]; exact hSc1.2⟩
        refine oneH 7 rfl rfl (by kernel_rfl) fun K hK => ?_
        refine wpH_store rfl 81 _ _ rfl hb (nums .u64 (sumN fr all (k + 1))) (nums .u64 (sumN fr all k)) 81 rfl rfl hrow9 (by rw [nums_size, hhl1]; kernel_rfl) (by rw [nums_size, nums_size, hhl1, hhl]) (nums_oneCell _ _) ?_
        refine hK _ _ hS9 fun _ => ?_
        clear hK K
        refine wpAnyH_done (by kernel_rfl) ?_ _
        have HR9 := Lib.hid (hrow9.setRow (sumN fr all (k + 1)))
        have HT9 := Lib.hid (htab9.setRow_other hb (nums .u64 (sumN fr all (k + 1))) hne)
        have HS9 := Lib.hid hS9
        clear hS9 hrow9 htab9 hSc1 hWc1 hS8 hrow htab hS hhl hhl1
        generalize Wc1.setRow hb (nums .u64 (sumN fr all (k + 1))) = W9 at *
        go_wp2
        go_round
        case rel => exact ⟨k + 1, by have := HLT.out; omega, by rw [HB2.out], HR9.out, HT9.out, HS9.out⟩
        case measure =>
          show (B _).size < (B _).size
          rw [B_size, B_size]
          simp only [List.length_drop]
          omega
end Go.Proofs.YtlbpodddokhmaaaGreat.Sha64
