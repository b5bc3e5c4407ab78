/-
  SHA-2's words of 64 bits: the walk of schedule.
  Conditions: a block.
-/
import Derived.Test.YtpgadpnaekhiaaaDoorShaB64
namespace Go.Proofs.YtpgadpnaekhiaaaDoor.Sha64
open Go.ChangeShapes Go.WideShapes Go.ChangeAt Go.RowKit Go.Deep Go.Proofs.YtpgadpnaekhiaaaDoor.Bw
open Go.Proofs.YtpgadpnaekhiaaaDoor.Sha (roundsL firstsL GlobAt zeros zeros_length made_zeros)
def byteF (l : List UInt8) (n : Nat) : Nat := (l.getD n 0).toNat
theorem byteF_lt (l : List UInt8) (n : Nat) : byteF l n < 256 := (l.getD n 0).toNat_lt
/-- A word of a block, behind j bytes. -/
def wb (b : List UInt8) (i : Nat) : Nat → Nat
  | 0 => 0
  | j + 1 => wb b i j * 256 + byteF b (i * 8 + j)
theorem wb_lt (b : List UInt8) (i : Nat) : ∀ j, wb b i j < 256 ^ j
  | 0 => by unfold wb; omega
  | j + 1 => by
    have h1 := wb_lt b i j
    have h2 := byteF_lt b (i * 8 + j)
    rw [wb, Nat.pow_succ]
    omega
/-- A block's words. -/
def nextS (l : List Nat) (n : Nat) : Nat := (((smallS (l.getD (n - 2) 0) 19 61 6 + l.getD (n - 7) 0) % 18446744073709551616 + smallS (l.getD (n - 15) 0) 1 8 7) % 18446744073709551616 + l.getD (n - 16) 0) % 18446744073709551616
def schedL (b : List UInt8) : Nat → List Nat
  | 0 => []
  | n + 1 => schedL b n ++ [if n < 16 then wb b n 8 else nextS (schedL b n) n]
theorem schedL_length (b : List UInt8) : ∀ n, (schedL b n).length = n
  | 0 => rfl
  | n + 1 => by rw [schedL, List.length_append, schedL_length b n]; rfl
theorem nextS_lt (l : List Nat) (n : Nat) : nextS l n < 18446744073709551616 := Nat.mod_lt _ (by omega)
theorem schedL_lt (b : List UInt8) : ∀ n j, (schedL b n).getD j 0 < 18446744073709551616
  | 0, j => by simp [schedL]
  | n + 1, j => by
    rw [schedL]
    by_cases hj : j < n
    · have e : (schedL b n ++ [if n < 16 then wb b n 8 else nextS (schedL b n) n]).getD j 0 = (schedL b n).getD j 0 := by
        simp only [List.getD]; rw [List.getElem?_append_left (by rw [schedL_length]; exact hj)]
      rw [e]; exact schedL_lt b n j
    · by_cases hjn : j = n
      · subst hjn
        have e : (schedL b j ++ [if j < 16 then wb b j 8 else nextS (schedL b j) j]).getD j 0 = if j < 16 then wb b j 8 else nextS (schedL b j) j := by
          simp only [List.getD]; rw [List.getElem?_append_right (by rw [schedL_length]; omega), schedL_length, Nat.sub_self]; rfl
        rw [e]
        split
        · exact wb_lt b j 8
        · exact nextS_lt _ _
      · rw [List.getD, List.getElem?_eq_none (by rw [List.length_append, schedL_length]; simp; omega)]; simp
theorem set_mid (a : List Nat) (n v : Nat) : (a ++ zeros (n + 1)).set a.length v = (a ++ [v]) ++ zeros n := by
  rw [List.set_append_right _ _ (Nat.le_refl _), Nat.sub_self, List.append_assoc]
  rfl
theorem small0_any (x : Nat) (w : World) (hx : x < 18446744073709551616) : Calls Tryd.prog 70 #[.int .u64 x, .agg (nums .i64 [1, 8, 7]), .agg #[.int .i64 64, .int .i64 80, .int .i64 28, .int .i64 34, .int .i64 39, .int .i64 14, .int .i64 18, .int .i64 41, .int .i64 1, .int .i64 8, .int .i64 7, .int .i64 19, .int .i64 61, .int .i64 6]] w fun e w' => e = .returned (.int .u64 ((smallS x 1 8 7 : Nat) : Int)) ∧ Below w.heap.size w w' := small_any x 1 8 7 w hx (by omega) (by omega) (by omega) (by omega) (by omega)
theorem small1_any (x : Nat) (w : World) (hx : x < 18446744073709551616) : Calls Tryd.prog 70 #[.int .u64 x, .agg (nums .i64 [19, 61, 6]), .agg #[.int .i64 64, .int .i64 80, .int .i64 28, .int .i64 34, .int .i64 39, .int .i64 14, .int .i64 18, .int .i64 41, .int .i64 1, .int .i64 8, .int .i64 7, .int .i64 19, .int .i64 61, .int .i64 6]] w fun e w' => e = .returned (.int .u64 ((smallS x 19 61 6 : Nat) : Int)) ∧ Below w.heap.size w w' := small_any x 19 61 6 w hx (by omega) (by omega) (by omega) (by omega) (by omega)
theorem runSubI {o : Oper} {a : Act} {w : World} (x y : Operand) (tp : TypeId) (ho : o.op = .binOp .sub 3 x y tp) (i c : Nat) (hx : a.eval x = .int .i64 (i : Int)) (hy : a.eval y = .int .i64 (c : Int)) (hc : c ≤ i) (hi : i ≤ 1000) :
    (execOp a.eval o).run Tryd.prog w = .ok (.value (.int .i64 ((i - c : Nat) : Int))) w := by
  unfold execOp
  simp only [ho, hx, hy]
  have e : ((i - c : Nat) : Int) = (i : Int) - (c : Int) := by omega
  have h1 : (0 : Int) ≤ (i : Int) - (c : Int) := by omega
  have h2 : (i : Int) - (c : Int) ≤ 1000 := by omega
  rw [e]
  go_simp
  simp [IntKind.wrap, IntKind.bits, IntKind.signed]
  omega
theorem runAddW {o : Oper} {a : Act} {w : World} (x y : Operand) (tp : TypeId) (ho : o.op = .binOp .add 45 x y tp) (m n : Nat) (hx : a.eval x = .int .u64 (m : Int)) (hy : a.eval y = .int .u64 (n : Int)) :
    (execOp a.eval o).run Tryd.prog w = .ok (.value (.int .u64 (((m + n) % 18446744073709551616 : Nat) : Int))) w := by
  unfold execOp
  simp only [ho, hx, hy]
  go_simp
  simp [IntKind.wrap, IntKind.bits, IntKind.signed]
theorem ldT (W : World) (p : Addr) (v : Value) (h : W.cell? p = some v) : (Instr.loadAt 45 (.pointer (some p))).run Tryd.prog W = .ok v W := by
  go_simp
/-- What a region of schedule keeps. -/
def SchS (w : World) (l : List Nat) (i : Nat) (W : World) : Prop := Below w.heap.size w W ∧ W.heap[w.heap.size]? = some (.cells #[.int .i64 64, .int .i64 80, .int .i64 28, .int .i64 34, .int .i64 39, .int .i64 14, .int .i64 18, .int .i64 41, .int .i64 1, .int .i64 8, .int .i64 7, .int .i64 19, .int .i64 61, .int .i64 6] 75 (0, 0)) ∧ ∃ v, NumsAt W (w.heap.size + 1) 45 .u64 (l.set i v)
theorem SchS.keep {w : World} {l : List Nat} {i : Nat} (W W1 : World) (h : SchS w l i W) (hb : Below W.heap.size W W1) : SchS w l i W1 := by
  obtain ⟨a, b, v, c⟩ := h
  exact ⟨a.trans (hb.mono a.size), below_heap hb (lt_of_heap b) b, v, c.below hb⟩
theorem SchS.cell {w : World} {l : List Nat} {i : Nat} {W : World} (h : SchS w l i W) (j : Nat) (hj : j < l.length) (hji : j ≠ i) : W.cell? ⟨w.heap.size + 1, j, none⟩ = some (.int .u64 ((l.getD j 0 : Nat) : Int)) := by
  obtain ⟨_, _, v, c⟩ := h
  have := c.cell j (by rw [List.length_set]; exact hj)
  rw [this]
  simp only [List.getD, List.getElem?_set_ne (Ne.symm hji)]
theorem runThree {o : Oper} {a : Act} {W : World} {b : Nat} (off : Nat) (l : List Nat) (x : Operand) (ho : o.op = .load 39 x) (hx : a.eval x = .pointer (some ⟨b, off, none⟩)) (h : W.heap[b]? = some (.cells #[.int .i64 64, .int .i64 80, .int .i64 28, .int .i64 34, .int .i64 39, .int .i64 14, .int .i64 18, .int .i64 41, .int .i64 1, .int .i64 8, .int .i64 7, .int .i64 19, .int .i64 61, .int .i64 6] 75 (0, 0))) (hl : l.length = 3)
    (hc : ∀ j, j < 3 → (#[.int .i64 64, .int .i64 80, .int .i64 28, .int .i64 34, .int .i64 39, .int .i64 14, .int .i64 18, .int .i64 41, .int .i64 1, .int .i64 8, .int .i64 7, .int .i64 19, .int .i64 61, .int .i64 6] : Array Value)[off + j]? = some (.int .i64 ((l.getD j 0 : Nat) : Int))) : (execOp a.eval o).run Tryd.prog W = .ok (.value (.agg (nums .i64 l))) W :=
  run_load_part 39 x ho b off hx .i64 l (fun j hj => by rw [cell_of_row _ b (off + j) _ _ _ h]; exact hc j (by omega)) _ Tryd.underlying39 rfl (by rw [hl]; kernel_rfl)
set_option maxHeartbeats 1600000 in
set_option maxRecDepth 100000 in
theorem schedule_any (b : List UInt8) (w : World) (hb : b.length = 16 * 8) : Calls Tryd.prog 62 #[.string (B b), FV] w fun e w' => ∃ r, e = .returned (.slice (some ⟨r, 0, none⟩) 80 80) ∧ NumsAt w' r 45 .u64 (schedL b 80) ∧ w.heap.size ≤ r ∧ Below w.heap.size w w' := by
  have hFV : FV = .agg #[.int .i64 64, .int .i64 80, .int .i64 28, .int .i64 34, .int .i64 39, .int .i64 14, .int .i64 18, .int .i64 41, .int .i64 1, .int .i64 8, .int .i64 7, .int .i64 19, .int .i64 61, .int .i64 6] := rfl
  rw [hFV]
  have hmk : (Instr.makeSlice 70 (.int .i64 80) (.int .i64 80)).run Tryd.prog (w.alloc (.cells #[.int .i64 64, .int .i64 80, .int .i64 28, .int .i64 34, .int .i64 39, .int .i64 14, .int .i64 18, .int .i64 41, .int .i64 1, .int .i64 8, .int .i64 7, .int .i64 19, .int .i64 61, .int .i64 6] 75)) = .ok (.slice (some ⟨w.heap.size + 1, 0, none⟩) 80 80) ((w.alloc (.cells #[.int .i64 64, .int .i64 80, .int .i64 28, .int .i64 34, .int .i64 39, .int .i64 14, .int .i64 18, .int .i64 41, .int .i64 1, .int .i64 8, .int .i64 7, .int .i64 19, .int .i64 61, .int .i64 6] 75)).alloc (.cells (nums .u64 (zeros 80)) 45)) := by
    have h := run_make_row' (P := Tryd.prog) 70 45 (.int .u64 0) 8 Tryd.underlying70 infoW rfl .i64 .i64 80 (by omega) (by omega) (w.alloc (.cells #[.int .i64 64, .int .i64 80, .int .i64 28, .int .i64 34, .int .i64 39, .int .i64 14, .int .i64 18, .int .i64 41, .int .i64 1, .int .i64 8, .int .i64 7, .int .i64 19, .int .i64 61, .int .i64 6] 75))
    rw [made_zeros, show (w.alloc (.cells #[.int .i64 64, .int .i64 80, .int .i64 28, .int .i64 34, .int .i64 39, .int .i64 14, .int .i64 18, .int .i64 41, .int .i64 1, .int .i64 8, .int .i64 7, .int .i64 19, .int .i64 61, .int .i64 6] 75)).heap.size = w.heap.size + 1 by simp] at h
    exact h
  go_enter Tryd.func62, Tryd.ntmps62
  go_wp2
  have hform : ((w.alloc (.cells #[.int .i64 64, .int .i64 80, .int .i64 28, .int .i64 34, .int .i64 39, .int .i64 14, .int .i64 18, .int .i64 41, .int .i64 1, .int .i64 8, .int .i64 7, .int .i64 19, .int .i64 61, .int .i64 6] 75)).alloc (.cells (nums .u64 (zeros 80)) 45)).heap[w.heap.size]? = some (.cells #[.int .i64 64, .int .i64 80, .int .i64 28, .int .i64 34, .int .i64 39, .int .i64 14, .int .i64 18, .int .i64 41, .int .i64 1, .int .i64 8, .int .i64 7, .int .i64 19, .int .i64 61, .int .i64 6] 75 (0, 0)) := heap_under (heap_alloc_last w _)
  have hrow : NumsAt ((w.alloc (.cells #[.int .i64 64, .int .i64 80, .int .i64 28, .int .i64 34, .int .i64 39, .int .i64 14, .int .i64 18, .int .i64 41, .int .i64 1, .int .i64 8, .int .i64 7, .int .i64 19, .int .i64 61, .int .i64 6] 75)).alloc (.cells (nums .u64 (zeros 80)) 45)) (w.heap.size + 1) 45 .u64 (zeros 80) := heap_at (by simp)
  have hbel : Below w.heap.size w ((w.alloc (.cells #[.int .i64 64, .int .i64 80, .int .i64 28, .int .i64 34, .int .i64 39, .int .i64 14, .int .i64 18, .int .i64 41, .int .i64 1, .int .i64 8, .int .i64 7, .int .i64 19, .int .i64 61, .int .i64 6] 75)).alloc (.cells (nums .u64 (zeros 80)) 45)) := by ((repeat' (with_reducible first | exact Below.refl _ _ | assumption | refine Below.drew ?_ | refine below_drewN ?_ _ | refine Below.setCell ?_ ?_ _ | refine Below.alloc ?_ ?_ _ | refine Below.ext ?_ ?_ _ | refine Below.trans ?_ (Below.mono ‹_› ?_))) <;> first | omega | (simp; done) | (simp; omega))
  clear hmk
  generalize (w.alloc (.cells #[.int .i64 64, .int .i64 80, .int .i64 28, .int .i64 34, .int .i64 39, .int .i64 14, .int .i64 18, .int .i64 41, .int .i64 1, .int .i64 8, .int .i64 7, .int .i64 19, .int .i64 61, .int .i64 6] 75)).alloc (.cells (nums .u64 (zeros 80)) 45) = W1 at *
  go_loopw [18] (fun s18 wr => ∃ (i : Nat) (l : List Nat), i ≤ 80 ∧ s18 = .int .i64 i ∧ l = schedL b i ++ zeros (80 - i) ∧ NumsAt wr (w.heap.size + 1) 45 .u64 l ∧ wr.heap[w.heap.size]? = some (.cells #[.int .i64 64, .int .i64 80, .int .i64 28, .int .i64 34, .int .i64 39, .int .i64 14, .int .i64 18, .int .i64 41, .int .i64 1, .int .i64 8, .int .i64 7, .int .i64 19, .int .i64 61, .int .i64 6] 75 (0, 0)) ∧ Below w.heap.size w wr) (fun s _ => 80 - (intOf s).toNat)
  case atStart => exact ⟨0, zeros 80, by omega, rfl, by simp [schedL], hrow, hform, hbel⟩
  case round =>
    clear hrow hform hbel W1
    obtain ⟨i, l, hi, rfl, hl, hrow, hform, hbel⟩ := hrel
    have hsl := schedL_length b i
    have hll : l.length = 80 := by rw [hl, List.length_append, hsl, zeros_length]; omega
    by_cases hend : i = 80
    · have hlt : ¬ (i : Int) < 80 := by omega
      have hl0 : l = schedL b 80 := by rw [hl, hend, Nat.sub_self]; simp [zeros]
      rw [hl0] at hrow
      clear hend hl0 hl hll hsl
      go_wp2
      go_ret
      exact ⟨_, rfl, hrow, by omega, hbel⟩
    · have hlt : (i : Int) < 80 := by omega
      have hi2 : i < 80 := by omega
      have hold : ∀ j, j < i → l.getD j 0 = (schedL b i).getD j 0 := fun j hj => by
        rw [hl]; simp only [List.getD]; rw [List.getElem?_append_left (by rw [hsl]; exact hj)]
      have hset : ∀ v, l.set i v = (schedL b i ++ [v]) ++ zeros (80 - (i + 1)) := fun v => by
        rw [hl, show 80 - i = (80 - (i + 1)) + 1 by omega]
        have := set_mid (schedL b i) (80 - (i + 1)) v
        rw [hsl] at this
        exact this
      have hnew : l.getD i 0 = 0 := by
        rw [hl]; simp only [List.getD]; rw [List.getElem?_append_right (by rw [hsl]; exact Nat.le_refl _), hsl, Nat.sub_self, show 80 - i = (80 - (i + 1)) + 1 by omega]; rfl
      have HSET := Lib.hid hset
      have HNEXT := Lib.hid (show schedL b (i + 1) = schedL b i ++ [if i < 16 then wb b i 8 else nextS (schedL b i) i] from rfl)
      by_cases h16 : i < 16
      · have h16i : (i : Int) < 16 := by omega
        rw [if_pos h16] at HNEXT
        obtain ⟨sg, hsg⟩ : ∃ sg, sg = (b.drop (i * 8)).take ((i + 1) * 8 - i * 8) := ⟨_, rfl⟩
        have hsgl : sg.length = 8 := by rw [hsg, List.length_take, List.length_drop]; omega
        have hsgb : ∀ x, x < 8 → byteF sg x = byteF b (i * 8 + x) := fun x hx => by
          rw [hsg]; simp only [byteF, List.getD, List.getElem?_take, List.getElem?_drop]; rw [if_pos (by omega)]
        have hseg := hsg.symm
        obtain ⟨cap, w1, hconv, hcap, hb1, hsz1, hcell1, -⟩ := bytes_conv (P := Tryd.prog) wr 9 33 5 sg Tryd.underlying9 Tryd.underlying33 Tryd.underlying5
        rw [hsgl] at hconv hcap
        have hseg1 : ∀ x, x < 8 → w1.cell? ⟨wr.heap.size, x, none⟩ = some (.int .u8 ((byteF b (i * 8 + x) : Nat) : Int)) := fun x hx => by
          rw [hcell1 x (by omega), ← hsgb x hx]
          simp [byteF, List.getD, show x < sg.length by omega]
        have hrow1 := hrow.below hb1
        have hform1 := below_heap hb1 (lt_of_heap hform) hform
        have hbel1 := hbel.trans (hb1.mono hbel.size)
        have htl := hrow.lt
        have hbig : (i : Int) * 8 + 8 ≤ (b.length : Int) := by omega
        have HSEG1 := Lib.hid hseg1
        have HHOLD := Lib.hid hold
        have HLL := Lib.hid hll
        have HHB := Lib.hid hb
        have hi16 : ((i : Int) + 1) * 8 ≤ (b.length : Int) := by omega
        clear hold hset hcell1 hseg1 hsg hsgb hl hrow hform hbel hb1 hb
        have hnew0 : l.set i (wb b i 0) = l := Sha.set_zero (by omega) hnew
        go_wp2_with fail
        have hsb : w.heap.size + 1 < wr.heap.size := htl
        generalize hsbe : wr.heap.size = sb at *
        clear hsbe hconv
        generalize w1 = W1 at *
        go_loopw [34] (fun s34 wi => ∃ (j : Nat), j ≤ 8 ∧ s34 = .int .i64 j ∧ NumsAt wi (w.heap.size + 1) 45 .u64 (l.set i (wb b i j)) ∧ wi.heap[w.heap.size]? = some (.cells #[.int .i64 64, .int .i64 80, .int .i64 28, .int .i64 34, .int .i64 39, .int .i64 14, .int .i64 18, .int .i64 41, .int .i64 1, .int .i64 8, .int .i64 7, .int .i64 19, .int .i64 61, .int .i64 6] 75 (0, 0)) ∧ Below w.heap.size w wi ∧ (∀ x, x < 8 → wi.cell? ⟨sb, x, none⟩ = some (.int .u8 ((byteF b (i * 8 + x) : Nat) : Int)))) (fun s _ => 8 - (intOf s).toNat)
        case atStart => exact ⟨0, by omega, rfl, by rw [hnew0]; exact hrow1, hform1, hbel1, HSEG1.out⟩
        case round =>
          clear hrow1 hform1 hbel1 HSEG1 hnew0 hseg
          obtain ⟨j, hj, rfl, hrow, hform, hbel, hseg⟩ := hrel
          have hwb := wb_lt b i j
          by_cases hjB : j = 8
          · have hjlt : ¬ (j : Int) < 8 := by omega
            rw [hjB] at hrow
            clear hjB hseg hwb
            go_wp2
            go_round
            case rel => exact ⟨i + 1, l.set i (wb b i 8), by omega, by go_num, by rw [HSET.out, HNEXT.out], hrow, hform, hbel⟩
            case measure => simp [intOf]; omega
          · have hjlt : (j : Int) < 8 := by omega
            have hjl : j < 8 := by omega
            have hc1 := hseg j hjl
            have hc2 := hrow.cellv i (wb b i j) (by rw [List.length_set, HLL.out]; exact hi2) (by rw [getD_set _ _ _ _ (by rw [HLL.out]; exact hi2), if_pos rfl])
            have hfz := hrow.frozen i
            have hbl := hrow.lt
            have hby := byteF_lt b (i * 8 + j)
            have HWB := Lib.hid (show wb b i (j + 1) = wb b i j * 256 + byteF b (i * 8 + j) from rfl)
            have hxs : wb b i j * 256 < 18446744073709551616 := by
              have h1 : 256 ^ j * 256 ≤ 256 ^ 8 := by rw [← Nat.pow_succ]; exact Nat.pow_le_pow_right (by omega) (by omega)
              have h2 : (256 : Nat) ^ 8 = 18446744073709551616 := by decide
              have h3 : wb b i j * 256 < 256 ^ j * 256 := Nat.mul_lt_mul_of_pos_right hwb (by omega)
              omega
            generalize wb b i j = x at *
            generalize byteF b (i * 8 + j) = c at *
            have hor : bits .or .u64 ((x : Int) * 256 % 18446744073709551616) (c : Int) = ((x * 256 + c : Nat) : Int) := by
              rw [show (x : Int) * 256 % 18446744073709551616 = ((x * 256 : Nat) : Int) by omega, or64 _ _ hxs (by omega)]
              have := Nat.two_pow_add_eq_or_of_lt (i := 8) (b := c) hby x
              rw [Nat.mul_comm x 256, ← this]
            have hor2 : bits .or .u64 (IntKind.u64.wrap ((x : Int) * 256)) (c : Int) = ((x * 256 + c : Nat) : Int) := by
              rw [← hor, show (x : Int) * 256 = ((x * 256 : Nat) : Int) by omega, wrap64u _ hxs]
              congr 1
              omega
            have HOR := Lib.hid hor
            have HOR2 := Lib.hid hor2
            clear hor2
            have HROW := Lib.hid hrow
            have HSEG := Lib.hid hseg
            clear hor hxs hwb hrow hseg
            go_wp2
            go_round
            case rel =>
              refine ⟨j + 1, by omega, by go_num, ?_, ?_, ?_, fun y hy => ?_⟩
              · first
                  | rw [HOR.out]
                  | rw [HOR2.out]
                rw [HWB.out]
                have := HROW.out.set i (x * 256 + c)
                rwa [List.set_set] at this
              · rw [setCell_block _ _ _ _ _ (by show ¬ w.heap.size + 1 = w.heap.size; omega)]; exact hform
              · exact Below.setCell hbel (by show w.heap.size ≤ w.heap.size + 1; omega) _
              · rw [World.cell?_of_block (setCell_block _ _ _ _ _ (by show ¬ w.heap.size + 1 = sb; omega))]
                exact HSEG.out y hy
            case measure => simp [intOf]; omega
      · have h16i : ¬ (i : Int) < 16 := by omega
        have hNX : nextS (schedL b i) i = (((smallS (l.getD (i - 2) 0) 19 61 6 + l.getD (i - 7) 0) % 18446744073709551616 + smallS (l.getD (i - 15) 0) 1 8 7) % 18446744073709551616 + l.getD (i - 16) 0) % 18446744073709551616 := by
          rw [hold _ (by omega), hold _ (by omega), hold _ (by omega), hold _ (by omega)]; rfl
        have hb2 : l.getD (i - 2) 0 < 18446744073709551616 := by rw [hold _ (by omega)]; exact schedL_lt b i _
        have hb15 : l.getD (i - 15) 0 < 18446744073709551616 := by rw [hold _ (by omega)]; exact schedL_lt b i _
        rw [if_neg h16] at HNEXT
        have HNX := Lib.hid hNX
        go_upto_region 12 with fail
        have hself : l.set i 0 = l := by
          apply Sha.set_zero (by omega) hnew
        have hS : SchS w l i wr.drew := ⟨hbel.drew, hform, 0, by rw [hself]; exact hrow.drew⟩
        have hcl := hrow.cellv i 0 (by omega) hnew
        clear hold hset hnew hNX
        refine wp_region_held (S := fun W => SchS w l i W) (by kernel_rfl) ?_
        change wpAnyH _ _ _ _ _ _ _ _ wr.drew
        refine takeH 0 rfl rfl (some 50) rfl (.slice (some ⟨w.heap.size + 1, 0, none⟩) 80 80) (by kernel_rfl) (by kernel_rfl) (by kernel_rfl) (fun _ _ _ h => h) (fun _ _ => rfl) hS ?_
        simp only [Act.put, List.setIfInBounds_toArray, List.set_cons_zero, List.set_cons_succ]
        refine takeH 1 rfl rfl (some 51) rfl (.int .i64 (i : Int)) (by kernel_rfl) (by kernel_rfl) (by kernel_rfl) (fun _ _ _ h => h) (fun _ _ => rfl) hS ?_
        simp only [Act.put, List.setIfInBounds_toArray, List.set_cons_zero, List.set_cons_succ]
        refine takeH 2 rfl rfl (some 52) rfl (.slice (some ⟨w.heap.size + 1, 0, none⟩) 80 80) (by kernel_rfl) (by kernel_rfl) (by kernel_rfl) (fun _ _ _ h => h) (fun _ _ => rfl) hS ?_
        simp only [Act.put, List.setIfInBounds_toArray, List.set_cons_zero, List.set_cons_succ]
        refine takeH 3 rfl rfl (some 53) rfl (.int .i64 (i : Int)) (by kernel_rfl) (by kernel_rfl) (by kernel_rfl) (fun _ _ _ h => h) (fun _ _ => rfl) hS ?_
        simp only [Act.put, List.setIfInBounds_toArray, List.set_cons_zero, List.set_cons_succ]
        refine takeH 4 rfl rfl (some 54) rfl (.int .i64 ((i - 2 : Nat) : Int)) (by kernel_rfl) (by kernel_rfl) (by kernel_rfl) (fun _ _ _ h => h) (fun w1 _ => runSubI _ _ _ rfl i 2 rfl rfl (by omega) (by omega)) hS ?_
        simp only [Act.put, List.setIfInBounds_toArray, List.set_cons_zero, List.set_cons_succ]
        refine takeH 5 rfl rfl (some 55) rfl (.pointer (some ⟨w.heap.size + 1, i - 2, none⟩)) (by kernel_rfl) (by kernel_rfl) (by kernel_rfl) (fun _ _ _ h => h) (fun w1 _ => runAt _ _ _ rfl _ _ _ rfl rfl (atRow w1 _ (i - 2) _ _ (by omega))) hS ?_
        simp only [Act.put, List.setIfInBounds_toArray, List.set_cons_zero, List.set_cons_succ]
        refine takeH 6 rfl rfl (some 56) rfl (.int .u64 ((l.getD (i - 2) 0 : Nat) : Int)) (by kernel_rfl) (by kernel_rfl) (by kernel_rfl) (fun _ _ _ h => h) (fun w1 h1 => runLoad _ _ rfl _ _ rfl (ldT w1 _ _ (h1.cell (i - 2) (by omega) (by omega)))) hS ?_
        simp only [Act.put, List.setIfInBounds_toArray, List.set_cons_zero, List.set_cons_succ]
        refine takeH 7 rfl rfl (some 57) rfl (.pointer (some ⟨w.heap.size, 11, none⟩)) (by kernel_rfl) (by kernel_rfl) (by kernel_rfl) (fun _ _ _ h => h) (fun _ _ => by kernel_rfl) hS ?_
        simp only [Act.put, List.setIfInBounds_toArray, List.set_cons_zero, List.set_cons_succ]
        refine takeH 8 rfl rfl (some 58) rfl (.agg (nums .i64 [19, 61, 6])) (by kernel_rfl) (by kernel_rfl) (by kernel_rfl) (fun _ _ _ h => h) (fun w1 h1 => runThree 11 [19, 61, 6] _ rfl rfl h1.2.1 rfl (fun j hj => match j, hj with | 0, _ => rfl | 1, _ => rfl | 2, _ => rfl)) hS ?_
        simp only [Act.put, List.setIfInBounds_toArray, List.set_cons_zero, List.set_cons_succ]
        refine takeH 9 rfl rfl (some 59) rfl (.agg #[.int .i64 64, .int .i64 80, .int .i64 28, .int .i64 34, .int .i64 39, .int .i64 14, .int .i64 18, .int .i64 41, .int .i64 1, .int .i64 8, .int .i64 7, .int .i64 19, .int .i64 61, .int .i64 6]) (by kernel_rfl) (by kernel_rfl) (by kernel_rfl) (fun _ _ _ h => h) (fun w1 h1 => runForm _ rfl rfl h1.2.1) hS ?_
        simp only [Act.put, List.setIfInBounds_toArray, List.set_cons_zero, List.set_cons_succ]
        refine takeH 11 rfl rfl (some 61) rfl (.slice (some ⟨w.heap.size + 1, 0, none⟩) 80 80) (by kernel_rfl) (by kernel_rfl) (by kernel_rfl) (fun _ _ _ h => h) (fun _ _ => rfl) hS ?_
        simp only [Act.put, List.setIfInBounds_toArray, List.set_cons_zero, List.set_cons_succ]
        refine takeH 12 rfl rfl (some 62) rfl (.int .i64 (i : Int)) (by kernel_rfl) (by kernel_rfl) (by kernel_rfl) (fun _ _ _ h => h) (fun _ _ => rfl) hS ?_
        simp only [Act.put, List.setIfInBounds_toArray, List.set_cons_zero, List.set_cons_succ]
        refine takeH 13 rfl rfl (some 63) rfl (.int .i64 ((i - 7 : Nat) : Int)) (by kernel_rfl) (by kernel_rfl) (by kernel_rfl) (fun _ _ _ h => h) (fun w1 _ => runSubI _ _ _ rfl i 7 rfl rfl (by omega) (by omega)) hS ?_
        simp only [Act.put, List.setIfInBounds_toArray, List.set_cons_zero, List.set_cons_succ]
        refine takeH 14 rfl rfl (some 64) rfl (.pointer (some ⟨w.heap.size + 1, i - 7, none⟩)) (by kernel_rfl) (by kernel_rfl) (by kernel_rfl) (fun _ _ _ h => h) (fun w1 _ => runAt _ _ _ rfl _ _ _ rfl rfl (atRow w1 _ (i - 7) _ _ (by omega))) hS ?_
        simp only [Act.put, List.setIfInBounds_toArray, List.set_cons_zero, List.set_cons_succ]
        refine takeH 15 rfl rfl (some 65) rfl (.int .u64 ((l.getD (i - 7) 0 : Nat) : Int)) (by kernel_rfl) (by kernel_rfl) (by kernel_rfl) (fun _ _ _ h => h) (fun w1 h1 => runLoad _ _ rfl _ _ rfl (ldT w1 _ _ (h1.cell (i - 7) (by omega) (by omega)))) hS ?_
        simp only [Act.put, List.setIfInBounds_toArray, List.set_cons_zero, List.set_cons_succ]
        refine takeH 17 rfl rfl (some 67) rfl (.slice (some ⟨w.heap.size + 1, 0, none⟩) 80 80) (by kernel_rfl) (by kernel_rfl) (by kernel_rfl) (fun _ _ _ h => h) (fun _ _ => rfl) hS ?_
        simp only [Act.put, List.setIfInBounds_toArray, List.set_cons_zero, List.set_cons_succ]
        refine takeH 18 rfl rfl (some 68) rfl (.int .i64 (i : Int)) (by kernel_rfl) (by kernel_rfl) (by kernel_rfl) (fun _ _ _ h => h) (fun _ _ => rfl) hS ?_
        simp only [Act.put, List.setIfInBounds_toArray, List.set_cons_zero, List.set_cons_succ]
        refine takeH 19 rfl rfl (some 69) rfl (.int .i64 ((i - 15 : Nat) : Int)) (by kernel_rfl) (by kernel_rfl) (by kernel_rfl) (fun _ _ _ h => h) (fun w1 _ => runSubI _ _ _ rfl i 15 rfl rfl (by omega) (by omega)) hS ?_
        simp only [Act.put, List.setIfInBounds_toArray, List.set_cons_zero, List.set_cons_succ]
        refine takeH 20 rfl rfl (some 70) rfl (.pointer (some ⟨w.heap.size + 1, i - 15, none⟩)) (by kernel_rfl) (by kernel_rfl) (by kernel_rfl) (fun _ _ _ h => h) (fun w1 _ => runAt _ _ _ rfl _ _ _ rfl rfl (atRow w1 _ (i - 15) _ _ (by omega))) hS ?_
        simp only [Act.put, List.setIfInBounds_toArray, List.set_cons_zero, List.set_cons_succ]
        refine takeH 21 rfl rfl (some 71) rfl (.int .u64 ((l.getD (i - 15) 0 : Nat) : Int)) (by kernel_rfl) (by kernel_rfl) (by kernel_rfl) (fun _ _ _ h => h) (fun w1 h1 => runLoad _ _ rfl _ _ rfl (ldT w1 _ _ (h1.cell (i - 15) (by omega) (by omega)))) hS ?_
        simp only [Act.put, List.setIfInBounds_toArray, List.set_cons_zero, List.set_cons_succ]
        refine takeH 22 rfl rfl (some 72) rfl (.pointer (some ⟨w.heap.size, 8, none⟩)) (by kernel_rfl) (by kernel_rfl) (by kernel_rfl) (fun _ _ _ h => h) (fun _ _ => by kernel_rfl) hS ?_
        simp only [Act.put, List.setIfInBounds_toArray, List.set_cons_zero, List.set_cons_succ]
        refine takeH 23 rfl rfl (some 73) rfl (.agg (nums .i64 [1, 8, 7])) (by kernel_rfl) (by kernel_rfl) (by kernel_rfl) (fun _ _ _ h => h) (fun w1 h1 => runThree 8 [1, 8, 7] _ rfl rfl h1.2.1 rfl (fun j hj => match j, hj with | 0, _ => rfl | 1, _ => rfl | 2, _ => rfl)) hS ?_
        simp only [Act.put, List.setIfInBounds_toArray, List.set_cons_zero, List.set_cons_succ]
        refine takeH 24 rfl rfl (some 74) rfl (.agg #[.int .i64 64, .int .i64 80, .int .i64 28, .int .i64 34, .int .i64 39, .int .i64 14, .int .i64 18, .int .i64 41, .int .i64 1, .int .i64 8, .int .i64 7, .int .i64 19, .int .i64 61, .int .i64 6]) (by kernel_rfl) (by kernel_rfl) (by kernel_rfl) (fun _ _ _ h => h) (fun w1 h1 => runForm _ rfl rfl h1.2.1) hS ?_
        simp only [Act.put, List.setIfInBounds_toArray, List.set_cons_zero, List.set_cons_succ]
        refine takeH 27 rfl rfl (some 77) rfl (.slice (some ⟨w.heap.size + 1, 0, none⟩) 80 80) (by kernel_rfl) (by kernel_rfl) (by kernel_rfl) (fun _ _ _ h => h) (fun _ _ => rfl) hS ?_
        simp only [Act.put, List.setIfInBounds_toArray, List.set_cons_zero, List.set_cons_succ]
        refine takeH 28 rfl rfl (some 78) rfl (.int .i64 (i : Int)) (by kernel_rfl) (by kernel_rfl) (by kernel_rfl) (fun _ _ _ h => h) (fun _ _ => rfl) hS ?_
        simp only [Act.put, List.setIfInBounds_toArray, List.set_cons_zero, List.set_cons_succ]
        refine takeH 29 rfl rfl (some 79) rfl (.int .i64 ((i - 16 : Nat) : Int)) (by kernel_rfl) (by kernel_rfl) (by kernel_rfl) (fun _ _ _ h => h) (fun w1 _ => runSubI _ _ _ rfl i 16 rfl rfl (by omega) (by omega)) hS ?_
        simp only [Act.put, List.setIfInBounds_toArray, List.set_cons_zero, List.set_cons_succ]
        refine takeH 30 rfl rfl (some 80) rfl (.pointer (some ⟨w.heap.size + 1, i - 16, none⟩)) (by kernel_rfl) (by kernel_rfl) (by kernel_rfl) (fun _ _ _ h => h) (fun w1 _ => runAt _ _ _ rfl _ _ _ rfl rfl (atRow w1 _ (i - 16) _ _ (by omega))) hS ?_
        simp only [Act.put, List.setIfInBounds_toArray, List.set_cons_zero, List.set_cons_succ]
        refine takeH 31 rfl rfl (some 81) rfl (.int .u64 ((l.getD (i - 16) 0 : Nat) : Int)) (by kernel_rfl) (by kernel_rfl) (by kernel_rfl) (fun _ _ _ h => h) (fun w1 h1 => runLoad _ _ rfl _ _ rfl (ldT w1 _ _ (h1.cell (i - 16) (by omega) (by omega)))) hS ?_
        simp only [Act.put, List.setIfInBounds_toArray, List.set_cons_zero, List.set_cons_succ]
        refine oneH 10 rfl rfl (by kernel_rfl) fun K hK => ?_
        refine wpH_call (some 60) rfl 70 #[.int .u64 ((l.getD (i - 2) 0 : Nat) : Int), .agg (nums .i64 [19, 61, 6]), .agg #[.int .i64 64, .int .i64 80, .int .i64 28, .int .i64 34, .int .i64 39, .int .i64 14, .int .i64 18, .int .i64 41, .int .i64 1, .int .i64 8, .int .i64 7, .int .i64 19, .int .i64 61, .int .i64 6]] (by kernel_rfl) _ _ (small1_any _ wr.drew hb2) fun Wc1 hWc1 => ?_
        simp only [Act.put, List.setIfInBounds_toArray, List.set_cons_zero, List.set_cons_succ]
        have hSc1 := SchS.keep wr.drew Wc1 hS hWc1
        refine hK _ _ hSc1 fun _ => ?_
        clear hK K
        refine takeH 16 rfl rfl (some 66) rfl (.int .u64 (((smallS (l.getD (i - 2) 0) 19 61 6 + l.getD (i - 7) 0) % 18446744073709551616 : Nat) : Int)) (by kernel_rfl) (by kernel_rfl) (by kernel_rfl) (fun _ _ _ h => h) (fun w1 _ => runAddW _ _ _ rfl _ _ rfl rfl) hSc1 ?_
        simp only [Act.put, List.setIfInBounds_toArray, List.set_cons_zero, List.set_cons_succ]
        refine oneH 25 rfl rfl (by kernel_rfl) fun K hK => ?_
        refine wpH_call (some 75) rfl 70 #[.int .u64 ((l.getD (i - 15) 0 : Nat) : Int), .agg (nums .i64 [1, 8, 7]), .agg #[.int .i64 64, .int .i64 80, .int .i64 28, .int .i64 34, .int .i64 39, .int .i64 14, .int .i64 18, .int .i64 41, .int .i64 1, .int .i64 8, .int .i64 7, .int .i64 19, .int .i64 61, .int .i64 6]] (by kernel_rfl) _ _ (small0_any _ Wc1 hb15) fun Wc2 hWc2 => ?_
        simp only [Act.put, List.setIfInBounds_toArray, List.set_cons_zero, List.set_cons_succ]
        have hSc2 := SchS.keep Wc1 Wc2 hSc1 hWc2
        refine hK _ _ hSc2 fun _ => ?_
        clear hK K
        refine takeH 26 rfl rfl (some 76) rfl (.int .u64 ((((smallS (l.getD (i - 2) 0) 19 61 6 + l.getD (i - 7) 0) % 18446744073709551616 + smallS (l.getD (i - 15) 0) 1 8 7) % 18446744073709551616 : Nat) : Int)) (by kernel_rfl) (by kernel_rfl) (by kernel_rfl) (fun _ _ _ h => h) (fun w1 _ => runAddW _ _ _ rfl _ _ rfl rfl) hSc2 ?_
        simp only [Act.put, List.setIfInBounds_toArray, List.set_cons_zero, List.set_cons_succ]
        refine takeH 32 rfl rfl (some 82) rfl (.int .u64 ((nextS (schedL b i) i : Nat) : Int)) (by kernel_rfl) (by kernel_rfl) (by kernel_rfl) (fun _ _ _ h => h) (fun w1 _ => by rw [HNX.out]; exact runAddW _ _ _ rfl _ _ rfl rfl) hSc2 ?_
        simp only [Act.put, List.setIfInBounds_toArray, List.set_cons_zero, List.set_cons_succ]
        refine takeH 33 rfl rfl (some 83) rfl (.pointer (some ⟨w.heap.size + 1, i, none⟩)) (by kernel_rfl) (by kernel_rfl) (by kernel_rfl) (fun _ _ _ h => h) (fun w1 _ => runAt _ _ _ rfl _ _ _ rfl rfl (atRow w1 _ i _ _ (by omega))) hSc2 ?_
        simp only [Act.put, List.setIfInBounds_toArray, List.set_cons_zero, List.set_cons_succ]
        have hrow2 := (hrow.drew.below hWc1).below hWc2
        have hcl2 := hrow2.cell i (by omega)
        have hfz2 := hrow2.frozen i
        have hS3 : SchS w l i (Wc2.setCell ⟨w.heap.size + 1, i, none⟩ (.int .u64 ((nextS (schedL b i) i : Nat) : Int))) := ⟨Below.setCell hSc2.1 (by show w.heap.size ≤ w.heap.size + 1; omega) _, by rw [setCell_block _ _ _ _ _ (by show ¬ w.heap.size + 1 = w.heap.size; omega)]; exact hSc2.2.1, _, hrow2.set i _⟩
        refine oneH 34 rfl rfl (by kernel_rfl) fun K hK => ?_
        refine wpH_skip (w' := Wc2.setCell ⟨w.heap.size + 1, i, none⟩ (.int .u64 ((nextS (schedL b i) i : Nat) : Int))) rfl (runStore _ _ _ rfl _ _ rfl rfl (stWord Wc2 _ i _ _ hcl2 hfz2)) ?_
        refine hK _ _ hS3 fun _ => ?_
        clear hK K
        refine wpAnyH_done (by kernel_rfl) ?_ _
        have HB2 := Lib.hid hS3.1
        have HF2 := Lib.hid hS3.2.1
        have HR2 := Lib.hid (hrow2.set i (nextS (schedL b i) i))
        clear hS3 hcl2 hfz2 hrow2 hSc1 hWc1 hSc2 hWc2 hS hrow hform hbel hcl hself hb2 hb15 hl HNX
        generalize Wc2.setCell ⟨w.heap.size + 1, i, none⟩ (.int .u64 ((nextS (schedL b i) i : Nat) : Int)) = W9 at *
        go_wp2
        go_round
        case rel => exact ⟨i + 1, l.set i (nextS (schedL b i) i), by omega, by go_num, by rw [HSET.out, HNEXT.out], HR2.out, HF2.out, HB2.out⟩
        case measure => simp [intOf]; omega
end Go.Proofs.YtpgadpnaekhiaaaDoor.Sha64
