/-
  SHA-2's words of 64 bits: the walk of step.
  Conditions: a block; words that fit.
-/
import Derived.Test.YtpgadpnaekhiaaaDoorShaC64
import Derived.Test.YtpgadpnaekhiaaaDoorShaD64
namespace Go.Proofs.YtpgadpnaekhiaaaDoor.Sha64
open Go.ChangeShapes Go.WideShapes Go.ChangeAt Go.RowKit Go.Deep Go.Proofs.YtpgadpnaekhiaaaDoor.Bw
open Go.Proofs.YtpgadpnaekhiaaaDoor.Sha (roundsL firstsL GlobAt zeros zeros_length made_zeros)
def Words (l : List Nat) : Prop := ∀ j, l.getD j 0 < 18446744073709551616
def notW (x : Nat) : Nat := 18446744073709551616 - 1 - x
def chW (e f g : Nat) : Nat := (e &&& f) ^^^ (notW e &&& g)
def majW (a b c : Nat) : Nat := (a &&& b) ^^^ (a &&& c) ^^^ (b &&& c)
def t1W (s : List Nat) (k _x : Nat) : Nat := (((s.getD 7 0 + bigS (s.getD 4 0) 14 18 41) % 18446744073709551616 + chW (s.getD 4 0) (s.getD 5 0) (s.getD 6 0)) % 18446744073709551616 + k) % 18446744073709551616
def t1F (s : List Nat) (k x : Nat) : Nat := (t1W s k x + x) % 18446744073709551616
def t2F (s : List Nat) : Nat := (bigS (s.getD 0 0) 28 34 39 + majW (s.getD 0 0) (s.getD 1 0) (s.getD 2 0)) % 18446744073709551616
/-- The state behind a round. -/
def roundW (s : List Nat) (k x : Nat) : List Nat := [(t1F s k x + t2F s) % 18446744073709551616, s.getD 0 0, s.getD 1 0, s.getD 2 0, (s.getD 3 0 + t1F s k x) % 18446744073709551616, s.getD 4 0, s.getD 5 0, s.getD 6 0]
def roundsW (h k x : List Nat) : Nat → List Nat
  | 0 => h
  | n + 1 => roundW (roundsW h k x n) (k.getD n 0) (x.getD n 0)
theorem roundsW_length {h : List Nat} (k x : List Nat) (hh : h.length = 8) : ∀ n, (roundsW h k x n).length = 8
  | 0 => hh
  | _ + 1 => rfl
def sumF (h s : List Nat) (i : Nat) : Nat := (h.getD i 0 + s.getD i 0) % 18446744073709551616
def stepW (h k : List Nat) (b : List UInt8) : List Nat := tab (sumF h (roundsW h k (schedL b 80) 80)) 8
theorem notW_lt (x : Nat) : notW x < 18446744073709551616 := by unfold notW; omega
theorem words_nil : Words [] := fun j => by simp
theorem words_cons {a : Nat} {l : List Nat} (h : a < 18446744073709551616) (hl : Words l) : Words (a :: l) := fun j => by
  cases j with
  | zero => simpa using h
  | succ j => simpa using hl j
theorem roundsW_words {h : List Nat} (k x : List Nat) (hh : Words h) : ∀ n, Words (roundsW h k x n)
  | 0 => hh
  | n + 1 => by
    have hs := roundsW_words k x hh n
    show Words (roundW _ _ _)
    unfold roundW
    exact words_cons (Nat.mod_lt _ (by omega)) (words_cons (hs _) (words_cons (hs _) (words_cons (hs _) (words_cons (Nat.mod_lt _ (by omega)) (words_cons (hs _) (words_cons (hs _) (words_cons (hs _) words_nil)))))))
theorem big0_any (x : Nat) (w : World) (hx : x < 18446744073709551616) : Calls Tryd.prog 63 #[.int .u64 x, .agg (nums .i64 [28, 34, 39]), .agg #[.int .i64 64, .int .i64 80, .int .i64 28, .int .i64 34, .int .i64 39, .int .i64 14, .int .i64 18, .int .i64 41, .int .i64 1, .int .i64 8, .int .i64 7, .int .i64 19, .int .i64 61, .int .i64 6]] w fun e w' => e = .returned (.int .u64 ((bigS x 28 34 39 : Nat) : Int)) ∧ Below w.heap.size w w' := big_any x 28 34 39 w hx (by omega) (by omega) (by omega) (by omega) (by omega) (by omega)
theorem big1_any (x : Nat) (w : World) (hx : x < 18446744073709551616) : Calls Tryd.prog 63 #[.int .u64 x, .agg (nums .i64 [14, 18, 41]), .agg #[.int .i64 64, .int .i64 80, .int .i64 28, .int .i64 34, .int .i64 39, .int .i64 14, .int .i64 18, .int .i64 41, .int .i64 1, .int .i64 8, .int .i64 7, .int .i64 19, .int .i64 61, .int .i64 6]] w fun e w' => e = .returned (.int .u64 ((bigS x 14 18 41 : Nat) : Int)) ∧ Below w.heap.size w w' := big_any x 14 18 41 w hx (by omega) (by omega) (by omega) (by omega) (by omega) (by omega)
theorem not_xor (n m : Nat) (h : m < 2 ^ n) : (2 ^ n - 1) ^^^ m = 2 ^ n - 1 - m := by
  apply Nat.eq_of_testBit_eq
  intro i
  rw [Nat.testBit_xor, Nat.testBit_two_pow_sub_one, show 2 ^ n - 1 - m = 2 ^ n - (m + 1) by omega, Nat.testBit_two_pow_sub_succ h]
  by_cases hi : i < n
  · simp [hi]
  · simp [hi, Nat.testBit_lt_two_pow (Nat.lt_of_lt_of_le h (Nat.pow_le_pow_right (by omega) (show n ≤ i by omega)))]
theorem runNot {o : Oper} {a : Act} {w : World} (x : Operand) (ho : o.op = .unOp .xor 45 x) (m : Nat) (hx : a.eval x = .int .u64 (m : Int)) (hm : m < 18446744073709551616) :
    (execOp a.eval o).run Tryd.prog w = .ok (.value (.int .u64 ((notW m : Nat) : Int))) w := by
  unfold execOp
  simp only [ho, hx]
  go_simp
  show bits .xor .u64 ((18446744073709551616 - 1 : Nat) : Int) (m : Int) = _
  rw [xor64 _ _ (by omega) hm]
  have := not_xor 64 m hm
  unfold notW
  exact congrArg _ this
theorem runAnd {o : Oper} {a : Act} {w : World} (x y : Operand) (tp : TypeId) (ho : o.op = .binOp .and 45 x y tp) (m n : Nat) (hx : a.eval x = .int .u64 (m : Int)) (hy : a.eval y = .int .u64 (n : Int)) (hm : m < 18446744073709551616) (hn : n < 18446744073709551616) :
    (execOp a.eval o).run Tryd.prog w = .ok (.value (.int .u64 ((m &&& n : Nat) : Int))) w := by
  unfold execOp
  simp only [ho, hx, hy]
  rw [← and64 m n hm hn]
  go_simp
theorem runXor {o : Oper} {a : Act} {w : World} (x y : Operand) (tp : TypeId) (ho : o.op = .binOp .xor 45 x y tp) (m n : Nat) (hx : a.eval x = .int .u64 (m : Int)) (hy : a.eval y = .int .u64 (n : Int)) (hm : m < 18446744073709551616) (hn : n < 18446744073709551616) :
    (execOp a.eval o).run Tryd.prog w = .ok (.value (.int .u64 ((m ^^^ n : Nat) : Int))) w := by
  unfold execOp
  simp only [ho, hx, hy]
  rw [← xor64 m n hm hn]
  go_simp
theorem stop_load {P : Program} {ops : Array Oper} {rest : List Oper} {o : Oper} {a : Act} {w : World} {Q : Exit → Act → World → Prop} {t : TypeId} {x : Operand} (_ : o.op = .load t x) (h : RowKit.Hid (wpList P ops Q (o :: rest) a w)) : wpList P ops Q (o :: rest) a w := h.out
theorem stop_store {P : Program} {ops : Array Oper} {rest : List Oper} {o : Oper} {a : Act} {w : World} {Q : Exit → Act → World → Prop} {t : TypeId} {x y : Operand} (_ : o.op = .store t x y) (h : RowKit.Hid (wpList P ops Q (o :: rest) a w)) : wpList P ops Q (o :: rest) a w := h.out
/-- What step's regions keep. -/
structure StpS (w : World) (h s x : List Nat) (rx : Nat) (W : World) : Prop where
  bel : Below w.heap.size w W
  row : NumsAt W w.heap.size 50 .u64 h
  form : W.heap[w.heap.size + 1]? = some (.cells #[.int .i64 64, .int .i64 80, .int .i64 28, .int .i64 34, .int .i64 39, .int .i64 14, .int .i64 18, .int .i64 41, .int .i64 1, .int .i64 8, .int .i64 7, .int .i64 19, .int .i64 61, .int .i64 6] 75 (0, 0))
  res : NumsAt W (w.heap.size + 2) 50 .u64 (zeros 8)
  st : NumsAt W (w.heap.size + 3) 50 .u64 s
  xs : NumsAt W rx 45 .u64 x
theorem StpS.keep {w : World} {h s x : List Nat} {rx : Nat} (W W1 : World) (a : StpS w h s x rx W) (hb : Below W.heap.size W W1) : StpS w h s x rx W1 :=
  ⟨a.bel.trans (hb.mono a.bel.size), a.row.below hb, below_heap hb (lt_of_heap a.form) a.form, a.res.below hb, a.st.below hb, a.xs.below hb⟩
set_option maxHeartbeats 3200000 in
set_option maxRecDepth 100000 in
theorem step_any (h k : List Nat) (b : List UInt8) (kb : Nat) (w : World) (hh : h.length = 8) (hhw : Words h) (hk : k.length = 80) (hkb : NumsAt w kb 45 .u64 k) (hb : b.length = 16 * 8) :
    Calls Tryd.prog 49 #[.agg (nums .u64 h), .slice (some ⟨kb, 0, none⟩) 80 80, .string (B b), FV] w fun e w' => e = .returned (.agg (nums .u64 (stepW h k b))) ∧ Below w.heap.size w w' := by
  have hFV : FV = .agg #[.int .i64 64, .int .i64 80, .int .i64 28, .int .i64 34, .int .i64 39, .int .i64 14, .int .i64 18, .int .i64 41, .int .i64 1, .int .i64 8, .int .i64 7, .int .i64 19, .int .i64 61, .int .i64 6] := rfl
  have HSCH := Lib.hid fun W => schedule_any b W hb
  have hxl := schedL_length b 80
  have HSTEP := Lib.hid (show stepW h k b = tab (sumF h (roundsW h k (schedL b 80) 80)) 8 from rfl)
  have HRL := Lib.hid (roundsW_length k (schedL b 80) hh)
  have HRW := Lib.hid (roundsW_words k (schedL b 80) hhw)
  have HRN := Lib.hid (show ∀ n, roundsW h k (schedL b 80) (n + 1) = roundW (roundsW h k (schedL b 80) n) (k.getD n 0) ((schedL b 80).getD n 0) from fun _ => rfl)
  have HR0 := Lib.hid (show roundsW h k (schedL b 80) 0 = h from rfl)
  have hresl : (stepW h k b).length = 8 := tab_length _ _
  rw [hFV] at *
  generalize stepW h k b = res at *
  generalize roundsW h k (schedL b 80) = rs at *
  generalize schedL b 80 = x at *
  go_enter Tryd.func49, Tryd.ntmps49
  go_upto_region 1 with fail
  rw [show (#[.int .u64 0, .int .u64 0, .int .u64 0, .int .u64 0, .int .u64 0, .int .u64 0, .int .u64 0, .int .u64 0] : Array Value) = nums .u64 (zeros 8) by kernel_rfl, show w.heap.size + 1 + 1 = w.heap.size + 2 from rfl]
  have hrow : NumsAt (((w.alloc (.cells (nums .u64 h) 50)).alloc (.cells #[.int .i64 64, .int .i64 80, .int .i64 28, .int .i64 34, .int .i64 39, .int .i64 14, .int .i64 18, .int .i64 41, .int .i64 1, .int .i64 8, .int .i64 7, .int .i64 19, .int .i64 61, .int .i64 6] 75)).alloc (.cells (nums .u64 (zeros 8)) 50)) w.heap.size 50 .u64 h := ((NumsAt.new w _ _ h).alloc _).alloc _
  have hform : (((w.alloc (.cells (nums .u64 h) 50)).alloc (.cells #[.int .i64 64, .int .i64 80, .int .i64 28, .int .i64 34, .int .i64 39, .int .i64 14, .int .i64 18, .int .i64 41, .int .i64 1, .int .i64 8, .int .i64 7, .int .i64 19, .int .i64 61, .int .i64 6] 75)).alloc (.cells (nums .u64 (zeros 8)) 50)).heap[w.heap.size + 1]? = some (.cells #[.int .i64 64, .int .i64 80, .int .i64 28, .int .i64 34, .int .i64 39, .int .i64 14, .int .i64 18, .int .i64 41, .int .i64 1, .int .i64 8, .int .i64 7, .int .i64 19, .int .i64 61, .int .i64 6] 75 (0, 0)) := heap_under (heap_at (by simp))
  have hres : NumsAt (((w.alloc (.cells (nums .u64 h) 50)).alloc (.cells #[.int .i64 64, .int .i64 80, .int .i64 28, .int .i64 34, .int .i64 39, .int .i64 14, .int .i64 18, .int .i64 41, .int .i64 1, .int .i64 8, .int .i64 7, .int .i64 19, .int .i64 61, .int .i64 6] 75)).alloc (.cells (nums .u64 (zeros 8)) 50)) (w.heap.size + 2) 50 .u64 (zeros 8) := heap_at (by simp)
  have hbel : Below w.heap.size w (((w.alloc (.cells (nums .u64 h) 50)).alloc (.cells #[.int .i64 64, .int .i64 80, .int .i64 28, .int .i64 34, .int .i64 39, .int .i64 14, .int .i64 18, .int .i64 41, .int .i64 1, .int .i64 8, .int .i64 7, .int .i64 19, .int .i64 61, .int .i64 6] 75)).alloc (.cells (nums .u64 (zeros 8)) 50)) := by ((repeat' (with_reducible first | exact Below.refl _ _ | assumption | refine Below.drew ?_ | refine below_drewN ?_ _ | refine Below.setCell ?_ ?_ _ | refine Below.alloc ?_ ?_ _ | refine Below.ext ?_ ?_ _ | refine Below.trans ?_ (Below.mono ‹_› ?_))) <;> first | omega | (simp; done) | (simp; omega))
  have hsz : (((w.alloc (.cells (nums .u64 h) 50)).alloc (.cells #[.int .i64 64, .int .i64 80, .int .i64 28, .int .i64 34, .int .i64 39, .int .i64 14, .int .i64 18, .int .i64 41, .int .i64 1, .int .i64 8, .int .i64 7, .int .i64 19, .int .i64 61, .int .i64 6] 75)).alloc (.cells (nums .u64 (zeros 8)) 50)).heap.size = w.heap.size + 3 := by simp
  generalize ((w.alloc (.cells (nums .u64 h) 50)).alloc (.cells #[.int .i64 64, .int .i64 80, .int .i64 28, .int .i64 34, .int .i64 39, .int .i64 14, .int .i64 18, .int .i64 41, .int .i64 1, .int .i64 8, .int .i64 7, .int .i64 19, .int .i64 61, .int .i64 6] 75)).alloc (.cells (nums .u64 (zeros 8)) 50) = W0 at *
  apply wp_region_lit (l := [_, _, _])
  refine wpList_load_rowTo rfl _ rfl 50 _ rfl w.heap.size rfl (nums .u64 h) 50 (0, 0) hrow _ Tryd.underlying50 rfl (by rw [nums_size, hh]; kernel_rfl) ?_
  refine Go.Great.wpList_allocTo rfl _ rfl (.pointer (some ⟨W0.heap.size, 0, none⟩)) (.cells (nums .u64 (zeros 8)) 50) (by kernel_rfl) ?_
  refine wpList_store_rowTo rfl 50 _ _ rfl rfl W0.heap.size (nums .u64 h) rfl rfl 50 (nums .u64 (zeros 8)) (heap_alloc_last W0 _) (by rw [nums_size, hh]; kernel_rfl) (by rw [nums_size, nums_size, hh, zeros_length]) (nums_oneCell _ _) ?_
  rw [World.setRow_alloc_new]
  have hst : NumsAt (W0.alloc (.cells (nums .u64 h) 50)) (w.heap.size + 3) 50 .u64 h := heap_at hsz
  replace hrow := hrow.alloc (.cells (nums .u64 h) 50)
  replace hres := hres.alloc (.cells (nums .u64 h) 50)
  replace hform : (W0.alloc (.cells (nums .u64 h) 50)).heap[w.heap.size + 1]? = _ := heap_under hform
  replace hbel : Below w.heap.size w (W0.alloc (.cells (nums .u64 h) 50)) := hbel.alloc (by omega) _
  rw [hsz]
  generalize W0.alloc (.cells (nums .u64 h) 50) = W1 at *
  clear hsz
  go_wp2_with (with_reducible refine stop_load (t := 75) rfl ?_)
  refine Lib.hid ?_
  refine wpList_load_rowTo rfl _ rfl 75 _ rfl (w.heap.size + 1) rfl _ _ (0, 0) hform _ Tryd.underlying75 rfl (by kernel_rfl) ?_
  go_wp2_with fail
  refine Calls.mono (HSCH.out _) ?_
  rintro _ W2 ⟨rx, rfl, hx, hrx, hb2⟩
  have HA := Lib.hid (show StpS w h h x rx W2 from ⟨hbel.trans (hb2.mono hbel.size), hrow.below hb2, below_heap hb2 (lt_of_heap hform) hform, hres.below hb2, hst.below hb2, hx⟩)
  have hrx3 : w.heap.size + 3 < rx := Nat.lt_of_lt_of_le hst.lt hrx
  have hkl := hkb.lt
  clear hbel hrow hform hres hst hx hb2 hrx W1
  go_wp2
  go_loopw [20] (fun s20 wr => ∃ n : Nat, n ≤ 80 ∧ s20 = .int .i64 n ∧ StpS w h (rs n) x rx wr) (fun s _ => 80 - (intOf s).toNat)
  case atStart => exact ⟨0, by omega, rfl, by rw [HR0.out]; exact HA.out⟩
  case round =>
    clear HA W2
    obtain ⟨n, hn, rfl, hA⟩ := hrel
    have hsl := HRL.out n
    by_cases hend : n = 80
    · have hlt : ¬ (n : Int) < 80 := by omega
      have HEND := Lib.hid hend
      have HT := Lib.hid (show res = tab (sumF h (rs n)) 8 by rw [HSTEP.out, hend])
      clear hend
      have HSW := Lib.hid (HRW.out n)
      generalize rs n = s at *
      go_wp2
      have hrow := hA.row
      have hst := hA.st
      have hres := hA.res
      have hbel := hA.bel
      clear hA
      generalize wr = W9 at *
      go_loopw [99] (fun s99 wq => ∃ (i : Nat) (l : List Nat), i ≤ 8 ∧ s99 = .int .i64 i ∧ l = fillN (sumF h s) h i ∧ NumsAt wq w.heap.size 50 .u64 l ∧ NumsAt wq (w.heap.size + 3) 50 .u64 s ∧ NumsAt wq (w.heap.size + 2) 50 .u64 (zeros 8) ∧ Below w.heap.size w wq) (fun s _ => 8 - (intOf s).toNat)
      case atStart => exact ⟨0, h, by omega, rfl, rfl, hrow, hst, hres, hbel⟩
      case round =>
        clear hrow hst hres hbel W9
        obtain ⟨i, l, hi, rfl, hl, hrow, hst, hres, hbel⟩ := hrel
        have hll : l.length = 8 := by rw [hl, fillN_length, hh]
        have HL := Lib.hid hl
        clear hl
        by_cases hi8 : i = 8
        · have hlt8 : ¬ (i : Int) < 8 := by omega
          have hl0 : l = res := by rw [HL.out, hi8, fillN_full _ hh, HT.out]
          rw [hl0] at hrow
          clear hi8 hl0 HL hll
          go_upto_region 14 with fail
          apply wp_region_lit (l := [_, _])
          refine wpList_load_rowTo rfl _ rfl 50 _ rfl w.heap.size rfl (nums .u64 res) 50 (0, 0) hrow _ Tryd.underlying50 rfl (by rw [nums_size, hresl]; kernel_rfl) ?_
          refine wpList_store_rowTo rfl 50 _ _ rfl rfl (w.heap.size + 2) (nums .u64 res) rfl rfl 50 (nums .u64 (zeros 8)) hres (by rw [nums_size, hresl]; kernel_rfl) (by rw [nums_size, nums_size, hresl, zeros_length]) (nums_oneCell _ _) ?_
          have hres2 := hres.setRow res
          have hbel2 := Below.setRow hbel (w.heap.size + 2) (by omega) (nums .u64 res)
          generalize wr.setRow (w.heap.size + 2) (nums .u64 res) = W8 at *
          go_wp2
          exact post_row (w.heap.size + 2) Tryd.results49 50 (nums .u64 res) _ rfl hres2 Tryd.underlying50 rfl (by rw [nums_size, hresl]; kernel_rfl) rfl ⟨rfl, hbel2⟩
        · have hlt8 : (i : Int) < 8 := by omega
          have hi8' : i < 8 := by omega
          have hlh : l.getD i 0 = h.getD i 0 := by rw [HL.out, fillN_get _ _ _ _ (by omega), if_neg (by omega)]
          have hc1 := hrow.cellv i _ (by omega) hlh
          have hc2 := hst.cell i (by omega)
          have hfz := hrow.frozen i
          have hbl1 := hrow.lt
          have hbl2 := hst.lt
          have HSF := Lib.hid (show sumF h s i = (h.getD i 0 + s.getD i 0) % 18446744073709551616 from rfl)
          generalize h.getD i 0 = p at *
          generalize s.getD i 0 = q at *
          have hz : ((p : Int) + (q : Int)) % 18446744073709551616 = (((p + q) % 18446744073709551616 : Nat) : Int) := by omega
          have hy : IntKind.u64.wrap ((p : Int) + (q : Int)) = (((p + q) % 18446744073709551616 : Nat) : Int) := by rw [← hz]; simp [IntKind.wrap, IntKind.bits, IntKind.signed]
          generalize (p + q) % 18446744073709551616 = z at *
          have HROW := Lib.hid hrow
          have HST2 := Lib.hid hst
          have HRES2 := Lib.hid hres
          clear hrow hst hres hlh
          go_wp2
          go_region
          go_wp2
          go_round
          case rel =>
            refine ⟨i + 1, l.set i z, by omega, by go_num, by rw [fillN, ← HL.out, HSF.out], ?_, ?_, ?_, ?_⟩
            · exact HROW.out.drew.set i z
            · exact HST2.out.drew.other w.heap.size i _ (by omega)
            · exact HRES2.out.drew.other w.heap.size i _ (by omega)
            · exact Below.setCell hbel.drew (Nat.le_refl _) _
          case measure => simp [intOf]; omega
    · have hlt : (n : Int) < 80 := by omega
      have hn2 : n < 80 := by omega
      have hw := HRW.out n
      have HRNN := Lib.hid (HRN.out n)
      have hxn := hA.xs.cell n (by omega)
      obtain ⟨kn, hkn⟩ : ∃ kn, k.getD n 0 = kn := ⟨_, rfl⟩
      have HKN := Lib.hid hkn
      rw [hkn] at HRNN
      clear hkn
      generalize x.getD n 0 = xn at *
      generalize rs n = s at *
      go_upto_region 5 with fail
      have hS : StpS w h s x rx wr.drew := ⟨hA.bel.drew, hA.row.drew, hA.form, hA.res.drew, hA.st.drew, hA.xs.drew⟩
      refine wp_region_held (S := fun W => StpS w h s x rx W) (by kernel_rfl) ?_
      change wpAnyH _ _ _ _ _ _ _ _ wr.drew
      refine takeH 0 rfl rfl (some 25) rfl (.pointer (some ⟨w.heap.size + 3, 7, none⟩)) (by kernel_rfl) (by kernel_rfl) (by kernel_rfl) (fun _ _ _ h => h) (fun w1 _ => runAt _ _ _ rfl _ _ _ rfl rfl (atWords w1 _ 7 (by omega))) hS ?_
      simp only [Act.put, List.setIfInBounds_toArray, List.set_cons_zero, List.set_cons_succ]
      refine takeH 1 rfl rfl (some 26) rfl (.int .u64 ((s.getD 7 0 : Nat) : Int)) (by kernel_rfl) (by kernel_rfl) (by kernel_rfl) (fun _ _ _ h => h) (fun w1 h1 => runLoad _ _ rfl _ _ rfl (ldT w1 _ _ (h1.st.cell 7 (by omega)))) hS ?_
      simp only [Act.put, List.setIfInBounds_toArray, List.set_cons_zero, List.set_cons_succ]
      refine takeH 2 rfl rfl (some 27) rfl (.pointer (some ⟨w.heap.size + 3, 4, none⟩)) (by kernel_rfl) (by kernel_rfl) (by kernel_rfl) (fun _ _ _ h => h) (fun w1 _ => runAt _ _ _ rfl _ _ _ rfl rfl (atWords w1 _ 4 (by omega))) hS ?_
      simp only [Act.put, List.setIfInBounds_toArray, List.set_cons_zero, List.set_cons_succ]
      refine takeH 3 rfl rfl (some 28) rfl (.int .u64 ((s.getD 4 0 : Nat) : Int)) (by kernel_rfl) (by kernel_rfl) (by kernel_rfl) (fun _ _ _ h => h) (fun w1 h1 => runLoad _ _ rfl _ _ rfl (ldT w1 _ _ (h1.st.cell 4 (by omega)))) hS ?_
      simp only [Act.put, List.setIfInBounds_toArray, List.set_cons_zero, List.set_cons_succ]
      refine takeH 4 rfl rfl (some 29) rfl (.pointer (some ⟨w.heap.size + 1, 5, none⟩)) (by kernel_rfl) (by kernel_rfl) (by kernel_rfl) (fun _ _ _ h => h) (fun _ _ => by kernel_rfl) hS ?_
      simp only [Act.put, List.setIfInBounds_toArray, List.set_cons_zero, List.set_cons_succ]
      refine takeH 5 rfl rfl (some 30) rfl (.agg (nums .i64 [14, 18, 41])) (by kernel_rfl) (by kernel_rfl) (by kernel_rfl) (fun _ _ _ h => h) (fun w1 h1 => runThree 5 [14, 18, 41] _ rfl rfl h1.form rfl (fun j hj => match j, hj with | 0, _ => rfl | 1, _ => rfl | 2, _ => rfl)) hS ?_
      simp only [Act.put, List.setIfInBounds_toArray, List.set_cons_zero, List.set_cons_succ]
      refine takeH 6 rfl rfl (some 31) rfl (.agg #[.int .i64 64, .int .i64 80, .int .i64 28, .int .i64 34, .int .i64 39, .int .i64 14, .int .i64 18, .int .i64 41, .int .i64 1, .int .i64 8, .int .i64 7, .int .i64 19, .int .i64 61, .int .i64 6]) (by kernel_rfl) (by kernel_rfl) (by kernel_rfl) (fun _ _ _ h => h) (fun w1 h1 => runForm _ rfl rfl h1.form) hS ?_
      simp only [Act.put, List.setIfInBounds_toArray, List.set_cons_zero, List.set_cons_succ]
      refine takeH 9 rfl rfl (some 34) rfl (.pointer (some ⟨w.heap.size + 3, 4, none⟩)) (by kernel_rfl) (by kernel_rfl) (by kernel_rfl) (fun _ _ _ h => h) (fun w1 _ => runAt _ _ _ rfl _ _ _ rfl rfl (atWords w1 _ 4 (by omega))) hS ?_
      simp only [Act.put, List.setIfInBounds_toArray, List.set_cons_zero, List.set_cons_succ]
      refine takeH 10 rfl rfl (some 35) rfl (.int .u64 ((s.getD 4 0 : Nat) : Int)) (by kernel_rfl) (by kernel_rfl) (by kernel_rfl) (fun _ _ _ h => h) (fun w1 h1 => runLoad _ _ rfl _ _ rfl (ldT w1 _ _ (h1.st.cell 4 (by omega)))) hS ?_
      simp only [Act.put, List.setIfInBounds_toArray, List.set_cons_zero, List.set_cons_succ]
      refine takeH 11 rfl rfl (some 36) rfl (.pointer (some ⟨w.heap.size + 3, 5, none⟩)) (by kernel_rfl) (by kernel_rfl) (by kernel_rfl) (fun _ _ _ h => h) (fun w1 _ => runAt _ _ _ rfl _ _ _ rfl rfl (atWords w1 _ 5 (by omega))) hS ?_
      simp only [Act.put, List.setIfInBounds_toArray, List.set_cons_zero, List.set_cons_succ]
      refine takeH 12 rfl rfl (some 37) rfl (.int .u64 ((s.getD 5 0 : Nat) : Int)) (by kernel_rfl) (by kernel_rfl) (by kernel_rfl) (fun _ _ _ h => h) (fun w1 h1 => runLoad _ _ rfl _ _ rfl (ldT w1 _ _ (h1.st.cell 5 (by omega)))) hS ?_
      simp only [Act.put, List.setIfInBounds_toArray, List.set_cons_zero, List.set_cons_succ]
      refine takeH 13 rfl rfl (some 38) rfl (.int .u64 ((s.getD 4 0 &&& s.getD 5 0 : Nat) : Int)) (by kernel_rfl) (by kernel_rfl) (by kernel_rfl) (fun _ _ _ h => h) (fun w1 _ => runAnd _ _ _ rfl _ _ rfl rfl (hw 4) (hw 5)) hS ?_
      simp only [Act.put, List.setIfInBounds_toArray, List.set_cons_zero, List.set_cons_succ]
      refine takeH 14 rfl rfl (some 39) rfl (.pointer (some ⟨w.heap.size + 3, 4, none⟩)) (by kernel_rfl) (by kernel_rfl) (by kernel_rfl) (fun _ _ _ h => h) (fun w1 _ => runAt _ _ _ rfl _ _ _ rfl rfl (atWords w1 _ 4 (by omega))) hS ?_
      simp only [Act.put, List.setIfInBounds_toArray, List.set_cons_zero, List.set_cons_succ]
      refine takeH 15 rfl rfl (some 40) rfl (.int .u64 ((s.getD 4 0 : Nat) : Int)) (by kernel_rfl) (by kernel_rfl) (by kernel_rfl) (fun _ _ _ h => h) (fun w1 h1 => runLoad _ _ rfl _ _ rfl (ldT w1 _ _ (h1.st.cell 4 (by omega)))) hS ?_
      simp only [Act.put, List.setIfInBounds_toArray, List.set_cons_zero, List.set_cons_succ]
      refine takeH 16 rfl rfl (some 41) rfl (.int .u64 ((notW (s.getD 4 0) : Nat) : Int)) (by kernel_rfl) (by kernel_rfl) (by kernel_rfl) (fun _ _ _ h => h) (fun w1 _ => runNot _ rfl _ rfl (hw 4)) hS ?_
      simp only [Act.put, List.setIfInBounds_toArray, List.set_cons_zero, List.set_cons_succ]
      refine takeH 17 rfl rfl (some 42) rfl (.pointer (some ⟨w.heap.size + 3, 6, none⟩)) (by kernel_rfl) (by kernel_rfl) (by kernel_rfl) (fun _ _ _ h => h) (fun w1 _ => runAt _ _ _ rfl _ _ _ rfl rfl (atWords w1 _ 6 (by omega))) hS ?_
      simp only [Act.put, List.setIfInBounds_toArray, List.set_cons_zero, List.set_cons_succ]
      refine takeH 18 rfl rfl (some 43) rfl (.int .u64 ((s.getD 6 0 : Nat) : Int)) (by kernel_rfl) (by kernel_rfl) (by kernel_rfl) (fun _ _ _ h => h) (fun w1 h1 => runLoad _ _ rfl _ _ rfl (ldT w1 _ _ (h1.st.cell 6 (by omega)))) hS ?_
      simp only [Act.put, List.setIfInBounds_toArray, List.set_cons_zero, List.set_cons_succ]
      refine takeH 19 rfl rfl (some 44) rfl (.int .u64 ((notW (s.getD 4 0) &&& s.getD 6 0 : Nat) : Int)) (by kernel_rfl) (by kernel_rfl) (by kernel_rfl) (fun _ _ _ h => h) (fun w1 _ => runAnd _ _ _ rfl _ _ rfl rfl (notW_lt _) (hw 6)) hS ?_
      simp only [Act.put, List.setIfInBounds_toArray, List.set_cons_zero, List.set_cons_succ]
      refine takeH 20 rfl rfl (some 45) rfl (.int .u64 ((chW (s.getD 4 0) (s.getD 5 0) (s.getD 6 0) : Nat) : Int)) (by kernel_rfl) (by kernel_rfl) (by kernel_rfl) (fun _ _ _ h => h) (fun w1 _ => runXor _ _ _ rfl _ _ rfl rfl (and_lt64 _ (hw 4)) (and_lt64 _ (notW_lt _))) hS ?_
      simp only [Act.put, List.setIfInBounds_toArray, List.set_cons_zero, List.set_cons_succ]
      refine takeH 22 rfl rfl (some 47) rfl (.slice (some ⟨kb, 0, none⟩) 80 80) (by kernel_rfl) (by kernel_rfl) (by kernel_rfl) (fun _ _ _ h => h) (fun _ _ => rfl) hS ?_
      simp only [Act.put, List.setIfInBounds_toArray, List.set_cons_zero, List.set_cons_succ]
      refine takeH 23 rfl rfl (some 48) rfl (.int .i64 (n : Int)) (by kernel_rfl) (by kernel_rfl) (by kernel_rfl) (fun _ _ _ h => h) (fun _ _ => rfl) hS ?_
      simp only [Act.put, List.setIfInBounds_toArray, List.set_cons_zero, List.set_cons_succ]
      refine takeH 24 rfl rfl (some 49) rfl (.pointer (some ⟨kb, n, none⟩)) (by kernel_rfl) (by kernel_rfl) (by kernel_rfl) (fun _ _ _ h => h) (fun w1 _ => runAt _ _ _ rfl _ _ _ rfl rfl (atRow w1 _ n _ _ hn2)) hS ?_
      simp only [Act.put, List.setIfInBounds_toArray, List.set_cons_zero, List.set_cons_succ]
      refine takeH 25 rfl rfl (some 50) rfl (.int .u64 ((kn : Nat) : Int)) (by kernel_rfl) (by kernel_rfl) (by kernel_rfl) (fun _ _ _ h => h) (fun w1 h1 => runLoad _ _ rfl _ _ rfl (ldT w1 _ _ ((hkb.below h1.bel).cellv n kn (by omega) HKN.out))) hS ?_
      simp only [Act.put, List.setIfInBounds_toArray, List.set_cons_zero, List.set_cons_succ]
      refine takeH 27 rfl rfl (some 52) rfl (.int .u64 ((xn : Nat) : Int)) (by kernel_rfl) (by kernel_rfl) (by kernel_rfl) (fun _ _ _ h => h) (fun _ _ => rfl) hS ?_
      simp only [Act.put, List.setIfInBounds_toArray, List.set_cons_zero, List.set_cons_succ]
      refine oneH 7 rfl rfl (by kernel_rfl) fun K hK => ?_
      refine wpH_call (some 32) rfl 63 #[.int .u64 ((s.getD 4 0 : Nat) : Int), .agg (nums .i64 [14, 18, 41]), .agg #[.int .i64 64, .int .i64 80, .int .i64 28, .int .i64 34, .int .i64 39, .int .i64 14, .int .i64 18, .int .i64 41, .int .i64 1, .int .i64 8, .int .i64 7, .int .i64 19, .int .i64 61, .int .i64 6]] (by kernel_rfl) _ _ (big1_any _ wr.drew (hw 4)) fun Wc1 hWc1 => ?_
      simp only [Act.put, List.setIfInBounds_toArray, List.set_cons_zero, List.set_cons_succ]
      have hSc1 := StpS.keep wr.drew Wc1 hS hWc1
      refine hK _ _ hSc1 fun _ => ?_
      clear hK K
      refine takeH 8 rfl rfl (some 33) rfl (.int .u64 (((s.getD 7 0 + bigS (s.getD 4 0) 14 18 41) % 18446744073709551616 : Nat) : Int)) (by kernel_rfl) (by kernel_rfl) (by kernel_rfl) (fun _ _ _ h => h) (fun w1 _ => runAddW _ _ _ rfl _ _ rfl rfl) hSc1 ?_
      simp only [Act.put, List.setIfInBounds_toArray, List.set_cons_zero, List.set_cons_succ]
      refine takeH 21 rfl rfl (some 46) rfl (.int .u64 ((((s.getD 7 0 + bigS (s.getD 4 0) 14 18 41) % 18446744073709551616 + chW (s.getD 4 0) (s.getD 5 0) (s.getD 6 0)) % 18446744073709551616 : Nat) : Int)) (by kernel_rfl) (by kernel_rfl) (by kernel_rfl) (fun _ _ _ h => h) (fun w1 _ => runAddW _ _ _ rfl _ _ rfl rfl) hSc1 ?_
      simp only [Act.put, List.setIfInBounds_toArray, List.set_cons_zero, List.set_cons_succ]
      refine takeH 26 rfl rfl (some 51) rfl (.int .u64 ((t1W s kn xn : Nat) : Int)) (by kernel_rfl) (by kernel_rfl) (by kernel_rfl) (fun _ _ _ h => h) (fun w1 _ => runAddW _ _ _ rfl _ _ rfl rfl) hSc1 ?_
      simp only [Act.put, List.setIfInBounds_toArray, List.set_cons_zero, List.set_cons_succ]
      refine takeH 28 rfl rfl (some 53) rfl (.int .u64 ((t1F s kn xn : Nat) : Int)) (by kernel_rfl) (by kernel_rfl) (by kernel_rfl) (fun _ _ _ h => h) (fun w1 _ => runAddW _ _ _ rfl _ _ rfl rfl) hSc1 ?_
      simp only [Act.put, List.setIfInBounds_toArray, List.set_cons_zero, List.set_cons_succ]
      refine takeH 29 rfl rfl (some 12) rfl (.int .u64 ((t1F s kn xn : Nat) : Int)) (by kernel_rfl) (by kernel_rfl) (by kernel_rfl) (fun _ _ _ h => h) (fun _ _ => rfl) hSc1 ?_
      simp only [Act.put, List.setIfInBounds_toArray, List.set_cons_zero, List.set_cons_succ]
      refine wpAnyH_done (by kernel_rfl) ?_ _
      generalize Wc1 = W5 at *
      have HS5 := Lib.hid hSc1
      clear hSc1 hWc1 hS hA
      have HWW := Lib.hid hw
      go_upto_region 6 with fail
      have hS6 : StpS w h s x rx W5.drew := ⟨HS5.out.bel.drew, HS5.out.row.drew, HS5.out.form, HS5.out.res.drew, HS5.out.st.drew, HS5.out.xs.drew⟩
      refine wp_region_held (S := fun W => StpS w h s x rx W) (by kernel_rfl) ?_
      change wpAnyH _ _ _ _ _ _ _ _ W5.drew
      refine takeH 0 rfl rfl (some 54) rfl (.pointer (some ⟨w.heap.size + 3, 0, none⟩)) (by kernel_rfl) (by kernel_rfl) (by kernel_rfl) (fun _ _ _ h => h) (fun w1 _ => runAt _ _ _ rfl _ _ _ rfl rfl (atWords w1 _ 0 (by omega))) hS6 ?_
      simp only [Act.put, List.setIfInBounds_toArray, List.set_cons_zero, List.set_cons_succ]
      refine takeH 1 rfl rfl (some 55) rfl (.int .u64 ((s.getD 0 0 : Nat) : Int)) (by kernel_rfl) (by kernel_rfl) (by kernel_rfl) (fun _ _ _ h => h) (fun w1 h1 => runLoad _ _ rfl _ _ rfl (ldT w1 _ _ (h1.st.cell 0 (by omega)))) hS6 ?_
      simp only [Act.put, List.setIfInBounds_toArray, List.set_cons_zero, List.set_cons_succ]
      refine takeH 2 rfl rfl (some 56) rfl (.pointer (some ⟨w.heap.size + 1, 2, none⟩)) (by kernel_rfl) (by kernel_rfl) (by kernel_rfl) (fun _ _ _ h => h) (fun _ _ => by kernel_rfl) hS6 ?_
      simp only [Act.put, List.setIfInBounds_toArray, List.set_cons_zero, List.set_cons_succ]
      refine takeH 3 rfl rfl (some 57) rfl (.agg (nums .i64 [28, 34, 39])) (by kernel_rfl) (by kernel_rfl) (by kernel_rfl) (fun _ _ _ h => h) (fun w1 h1 => runThree 2 [28, 34, 39] _ rfl rfl h1.form rfl (fun j hj => match j, hj with | 0, _ => rfl | 1, _ => rfl | 2, _ => rfl)) hS6 ?_
      simp only [Act.put, List.setIfInBounds_toArray, List.set_cons_zero, List.set_cons_succ]
      refine takeH 4 rfl rfl (some 58) rfl (.agg #[.int .i64 64, .int .i64 80, .int .i64 28, .int .i64 34, .int .i64 39, .int .i64 14, .int .i64 18, .int .i64 41, .int .i64 1, .int .i64 8, .int .i64 7, .int .i64 19, .int .i64 61, .int .i64 6]) (by kernel_rfl) (by kernel_rfl) (by kernel_rfl) (fun _ _ _ h => h) (fun w1 h1 => runForm _ rfl rfl h1.form) hS6 ?_
      simp only [Act.put, List.setIfInBounds_toArray, List.set_cons_zero, List.set_cons_succ]
      refine takeH 6 rfl rfl (some 60) rfl (.pointer (some ⟨w.heap.size + 3, 0, none⟩)) (by kernel_rfl) (by kernel_rfl) (by kernel_rfl) (fun _ _ _ h => h) (fun w1 _ => runAt _ _ _ rfl _ _ _ rfl rfl (atWords w1 _ 0 (by omega))) hS6 ?_
      simp only [Act.put, List.setIfInBounds_toArray, List.set_cons_zero, List.set_cons_succ]
      refine takeH 7 rfl rfl (some 61) rfl (.int .u64 ((s.getD 0 0 : Nat) : Int)) (by kernel_rfl) (by kernel_rfl) (by kernel_rfl) (fun _ _ _ h => h) (fun w1 h1 => runLoad _ _ rfl _ _ rfl (ldT w1 _ _ (h1.st.cell 0 (by omega)))) hS6 ?_
      simp only [Act.put, List.setIfInBounds_toArray, List.set_cons_zero, List.set_cons_succ]
      refine takeH 8 rfl rfl (some 62) rfl (.pointer (some ⟨w.heap.size + 3, 1, none⟩)) (by kernel_rfl) (by kernel_rfl) (by kernel_rfl) (fun _ _ _ h => h) (fun w1 _ => runAt _ _ _ rfl _ _ _ rfl rfl (atWords w1 _ 1 (by omega))) hS6 ?_
      simp only [Act.put, List.setIfInBounds_toArray, List.set_cons_zero, List.set_cons_succ]
      refine takeH 9 rfl rfl (some 63) rfl (.int .u64 ((s.getD 1 0 : Nat) : Int)) (by kernel_rfl) (by kernel_rfl) (by kernel_rfl) (fun _ _ _ h => h) (fun w1 h1 => runLoad _ _ rfl _ _ rfl (ldT w1 _ _ (h1.st.cell 1 (by omega)))) hS6 ?_
      simp only [Act.put, List.setIfInBounds_toArray, List.set_cons_zero, List.set_cons_succ]
      refine takeH 10 rfl rfl (some 64) rfl (.int .u64 ((s.getD 0 0 &&& s.getD 1 0 : Nat) : Int)) (by kernel_rfl) (by kernel_rfl) (by kernel_rfl) (fun _ _ _ h => h) (fun w1 _ => runAnd _ _ _ rfl _ _ rfl rfl (hw 0) (hw 1)) hS6 ?_
      simp only [Act.put, List.setIfInBounds_toArray, List.set_cons_zero, List.set_cons_succ]
      refine takeH 11 rfl rfl (some 65) rfl (.pointer (some ⟨w.heap.size + 3, 0, none⟩)) (by kernel_rfl) (by kernel_rfl) (by kernel_rfl) (fun _ _ _ h => h) (fun w1 _ => runAt _ _ _ rfl _ _ _ rfl rfl (atWords w1 _ 0 (by omega))) hS6 ?_
      simp only [Act.put, List.setIfInBounds_toArray, List.set_cons_zero, List.set_cons_succ]
      refine takeH 12 rfl rfl (some 66) rfl (.int .u64 ((s.getD 0 0 : Nat) : Int)) (by kernel_rfl) (by kernel_rfl) (by kernel_rfl) (fun _ _ _ h => h) (fun w1 h1 => runLoad _ _ rfl _ _ rfl (ldT w1 _ _ (h1.st.cell 0 (by omega)))) hS6 ?_
      simp only [Act.put, List.setIfInBounds_toArray, List.set_cons_zero, List.set_cons_succ]
      refine takeH 13 rfl rfl (some 67) rfl (.pointer (some ⟨w.heap.size + 3, 2, none⟩)) (by kernel_rfl) (by kernel_rfl) (by kernel_rfl) (fun _ _ _ h => h) (fun w1 _ => runAt _ _ _ rfl _ _ _ rfl rfl (atWords w1 _ 2 (by omega))) hS6 ?_
      simp only [Act.put, List.setIfInBounds_toArray, List.set_cons_zero, List.set_cons_succ]
      refine takeH 14 rfl rfl (some 68) rfl (.int .u64 ((s.getD 2 0 : Nat) : Int)) (by kernel_rfl) (by kernel_rfl) (by kernel_rfl) (fun _ _ _ h => h) (fun w1 h1 => runLoad _ _ rfl _ _ rfl (ldT w1 _ _ (h1.st.cell 2 (by omega)))) hS6 ?_
      simp only [Act.put, List.setIfInBounds_toArray, List.set_cons_zero, List.set_cons_succ]
      refine takeH 15 rfl rfl (some 69) rfl (.int .u64 ((s.getD 0 0 &&& s.getD 2 0 : Nat) : Int)) (by kernel_rfl) (by kernel_rfl) (by kernel_rfl) (fun _ _ _ h => h) (fun w1 _ => runAnd _ _ _ rfl _ _ rfl rfl (hw 0) (hw 2)) hS6 ?_
      simp only [Act.put, List.setIfInBounds_toArray, List.set_cons_zero, List.set_cons_succ]
      refine takeH 16 rfl rfl (some 70) rfl (.int .u64 (((s.getD 0 0 &&& s.getD 1 0) ^^^ (s.getD 0 0 &&& s.getD 2 0) : Nat) : Int)) (by kernel_rfl) (by kernel_rfl) (by kernel_rfl) (fun _ _ _ h => h) (fun w1 _ => runXor _ _ _ rfl _ _ rfl rfl (and_lt64 _ (hw 0)) (and_lt64 _ (hw 0))) hS6 ?_
      simp only [Act.put, List.setIfInBounds_toArray, List.set_cons_zero, List.set_cons_succ]
      refine takeH 17 rfl rfl (some 71) rfl (.pointer (some ⟨w.heap.size + 3, 1, none⟩)) (by kernel_rfl) (by kernel_rfl) (by kernel_rfl) (fun _ _ _ h => h) (fun w1 _ => runAt _ _ _ rfl _ _ _ rfl rfl (atWords w1 _ 1 (by omega))) hS6 ?_
      simp only [Act.put, List.setIfInBounds_toArray, List.set_cons_zero, List.set_cons_succ]
      refine takeH 18 rfl rfl (some 72) rfl (.int .u64 ((s.getD 1 0 : Nat) : Int)) (by kernel_rfl) (by kernel_rfl) (by kernel_rfl) (fun _ _ _ h => h) (fun w1 h1 => runLoad _ _ rfl _ _ rfl (ldT w1 _ _ (h1.st.cell 1 (by omega)))) hS6 ?_
      simp only [Act.put, List.setIfInBounds_toArray, List.set_cons_zero, List.set_cons_succ]
      refine takeH 19 rfl rfl (some 73) rfl (.pointer (some ⟨w.heap.size + 3, 2, none⟩)) (by kernel_rfl) (by kernel_rfl) (by kernel_rfl) (fun _ _ _ h => h) (fun w1 _ => runAt _ _ _ rfl _ _ _ rfl rfl (atWords w1 _ 2 (by omega))) hS6 ?_
      simp only [Act.put, List.setIfInBounds_toArray, List.set_cons_zero, List.set_cons_succ]
      refine takeH 20 rfl rfl (some 74) rfl (.int .u64 ((s.getD 2 0 : Nat) : Int)) (by kernel_rfl) (by kernel_rfl) (by kernel_rfl) (fun _ _ _ h => h) (fun w1 h1 => runLoad _ _ rfl _ _ rfl (ldT w1 _ _ (h1.st.cell 2 (by omega)))) hS6 ?_
      simp only [Act.put, List.setIfInBounds_toArray, List.set_cons_zero, List.set_cons_succ]
      refine takeH 21 rfl rfl (some 75) rfl (.int .u64 ((s.getD 1 0 &&& s.getD 2 0 : Nat) : Int)) (by kernel_rfl) (by kernel_rfl) (by kernel_rfl) (fun _ _ _ h => h) (fun w1 _ => runAnd _ _ _ rfl _ _ rfl rfl (hw 1) (hw 2)) hS6 ?_
      simp only [Act.put, List.setIfInBounds_toArray, List.set_cons_zero, List.set_cons_succ]
      refine takeH 22 rfl rfl (some 76) rfl (.int .u64 ((majW (s.getD 0 0) (s.getD 1 0) (s.getD 2 0) : Nat) : Int)) (by kernel_rfl) (by kernel_rfl) (by kernel_rfl) (fun _ _ _ h => h) (fun w1 _ => runXor _ _ _ rfl _ _ rfl rfl (xor_lt64 (and_lt64 _ (hw 0)) (and_lt64 _ (hw 0))) (and_lt64 _ (hw 1))) hS6 ?_
      simp only [Act.put, List.setIfInBounds_toArray, List.set_cons_zero, List.set_cons_succ]
      refine oneH 5 rfl rfl (by kernel_rfl) fun K hK => ?_
      refine wpH_call (some 59) rfl 63 #[.int .u64 ((s.getD 0 0 : Nat) : Int), .agg (nums .i64 [28, 34, 39]), .agg #[.int .i64 64, .int .i64 80, .int .i64 28, .int .i64 34, .int .i64 39, .int .i64 14, .int .i64 18, .int .i64 41, .int .i64 1, .int .i64 8, .int .i64 7, .int .i64 19, .int .i64 61, .int .i64 6]] (by kernel_rfl) _ _ (big0_any _ W5.drew (hw 0)) fun Wc1 hWc1 => ?_
      simp only [Act.put, List.setIfInBounds_toArray, List.set_cons_zero, List.set_cons_succ]
      have hSc1 := StpS.keep W5.drew Wc1 hS6 hWc1
      refine hK _ _ hSc1 fun _ => ?_
      clear hK K
      refine takeH 23 rfl rfl (some 77) rfl (.int .u64 ((t2F s : Nat) : Int)) (by kernel_rfl) (by kernel_rfl) (by kernel_rfl) (fun _ _ _ h => h) (fun w1 _ => runAddW _ _ _ rfl _ _ rfl rfl) hSc1 ?_
      simp only [Act.put, List.setIfInBounds_toArray, List.set_cons_zero, List.set_cons_succ]
      refine takeH 24 rfl rfl (some 13) rfl (.int .u64 ((t2F s : Nat) : Int)) (by kernel_rfl) (by kernel_rfl) (by kernel_rfl) (fun _ _ _ h => h) (fun _ _ => rfl) hSc1 ?_
      simp only [Act.put, List.setIfInBounds_toArray, List.set_cons_zero, List.set_cons_succ]
      refine wpAnyH_done (by kernel_rfl) ?_ _
      have HS6 := Lib.hid hSc1
      clear hSc1 hWc1 hS6 hxn HS5 hw
      generalize Wc1 = W6 at *
      have hst := HS6.out.st
      have f0 := HWW.out 0
      have c0 := hst.cell 0 (by omega)
      have c1 := hst.cell 1 (by omega)
      have c2 := hst.cell 2 (by omega)
      have c3 := hst.cell 3 (by omega)
      have c4 := hst.cell 4 (by omega)
      have c5 := hst.cell 5 (by omega)
      have c6 := hst.cell 6 (by omega)
      have HRD := Lib.hid (show roundW s kn xn = [(t1F s kn xn + t2F s) % 18446744073709551616, s.getD 0 0, s.getD 1 0, s.getD 2 0, (s.getD 3 0 + t1F s kn xn) % 18446744073709551616, s.getD 4 0, s.getD 5 0, s.getD 6 0] from rfl)
      generalize t1F s kn xn = v1 at *
      generalize t2F s = v2 at *
      generalize s.getD 0 0 = s0 at *
      generalize s.getD 1 0 = s1 at *
      generalize s.getD 2 0 = s2 at *
      generalize s.getD 3 0 = s3 at *
      generalize s.getD 4 0 = s4 at *
      generalize s.getD 5 0 = s5 at *
      generalize s.getD 6 0 = s6 at *
      have hz0 : ((v1 : Int) + (v2 : Int)) % 18446744073709551616 = (((v1 + v2) % 18446744073709551616 : Nat) : Int) := by omega
      have hz4 : ((s3 : Int) + (v1 : Int)) % 18446744073709551616 = (((s3 + v1) % 18446744073709551616 : Nat) : Int) := by omega
      have hy0 : IntKind.u64.wrap ((v1 : Int) + (v2 : Int)) = (((v1 + v2) % 18446744073709551616 : Nat) : Int) := by rw [← hz0]; simp [IntKind.wrap, IntKind.bits, IntKind.signed]
      have hy4 : IntKind.u64.wrap ((s3 : Int) + (v1 : Int)) = (((s3 + v1) % 18446744073709551616 : Nat) : Int) := by rw [← hz4]; simp [IntKind.wrap, IntKind.bits, IntKind.signed]
      generalize (v1 + v2) % 18446744073709551616 = z0 at *
      generalize (s3 + v1) % 18446744073709551616 = z4 at *
      clear hst f0
      go_wp2_with (with_reducible refine stop_store (t := 50) rfl ?_)
      refine Lib.hid ?_
      refine wpList_store_rowTo rfl 50 _ _ rfl rfl (w.heap.size + 3) (nums .u64 [z0, s0, s1, s2, z4, s4, s5, s6]) rfl rfl 50 (nums .u64 s) HS6.out.st (by kernel_rfl) (by rw [nums_size, nums_size, hsl]; rfl) (nums_oneCell _ _) ?_
      have HNEW := Lib.hid (show StpS w h (rs (n + 1)) x rx (W6.setRow (w.heap.size + 3) (nums .u64 [z0, s0, s1, s2, z4, s4, s5, s6])) from
        ⟨Below.setRow HS6.out.bel _ (by omega) _, HS6.out.row.setRow_other _ _ (by omega), by rw [setRow_other _ _ _ _ (by omega)]; exact HS6.out.form, HS6.out.res.setRow_other _ _ (by omega), by rw [HRNN.out, HRD.out]; exact HS6.out.st.setRow _, HS6.out.xs.setRow_other _ _ (by omega)⟩)
      generalize W6.setRow (w.heap.size + 3) (nums .u64 [z0, s0, s1, s2, z4, s4, s5, s6]) = W7 at *
      clear hz0 hz4 hy0 hy4 c0 c1 c2 c3 c4 c5 c6
      go_wp2
      go_round
      case rel => exact ⟨n + 1, by omega, by go_num, HNEW.out⟩
      case measure => simp [intOf]; omega
end Go.Proofs.YtpgadpnaekhiaaaDoor.Sha64
