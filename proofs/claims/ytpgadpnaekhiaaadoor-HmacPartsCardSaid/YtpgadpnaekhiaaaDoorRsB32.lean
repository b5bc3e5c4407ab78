/-
  The reference of SHA-2 with words of 32 bits: the walk of block.
  Conditions: words that fit; a block.
-/
import Derived.Test.YtpgadpnaekhiaaaDoorRsA32
import Derived.Test.YtpgadpnaekhiaaaDoorRsG
namespace Go.Proofs.YtpgadpnaekhiaaaDoor.Sha32
open Go.ChangeShapes Go.WideShapes Go.ChangeAt Go.RowKit Go.Deep Go.Proofs.YtpgadpnaekhiaaaDoor.Bw
open Go.Proofs.YtpgadpnaekhiaaaDoor.Sha (roundsL zeros zeros_length made_zeros)
theorem ldByte (W : World) (p : Addr) (v : Value) (h : W.cell? p = some v) : (Instr.loadAt 5 (.pointer (some p))).run Tryd.prog W = .ok v W := by
  go_simp
theorem st64 (W : World) (b i : Nat) (v : Int) (old : Value) (h : W.cell? ⟨b, i, none⟩ = some old) (hf : W.frozen? ⟨b, i, none⟩ = false) : (Instr.storeAt 45 (.pointer (some ⟨b, i, none⟩)) (.int .u64 v)).run Tryd.prog W = .ok () (W.setCell ⟨b, i, none⟩ (.int .u64 v)) := by
  go_simp
theorem atWord8 (W : World) (b i : Nat) (h : i < 8) : (Instr.indexAt 50 (.pointer (some ⟨b, 0, none⟩)) (.int .i64 (i : Int))).run Tryd.prog W = .ok (.pointer (some ⟨b, i, none⟩)) W := by
  have hi : (i : Int) < 8 := by omega
  go_simp
theorem atBytes (W : World) (b o i n cap : Nat) (h : i < n) : (Instr.indexAt 33 (.slice (some ⟨b, o, none⟩) n cap) (.int .i64 (i : Int))).run Tryd.prog W = .ok (.pointer (some ⟨b, o + i, none⟩)) W := by
  have hi : (i : Int) < (n : Int) := by omega
  go_simp
theorem runMulI {o : Oper} {a : Act} {w : World} (x y : Operand) (tp : TypeId) (ho : o.op = .binOp .mul 3 x y tp) {m n q : Nat} (hx : a.eval x = .int .i64 (m : Int)) (hy : a.eval y = .int .i64 (n : Int)) (hq : m * n = q) (hl : q < 1000000) :
    (execOp a.eval o).run Tryd.prog w = .ok (.value (.int .i64 (q : Int))) w := by
  have e : (m : Int) * (n : Int) = (q : Int) := by rw [← hq]; simp
  have hw : IntKind.i64.wrap (q : Int) = (q : Int) := by simp [IntKind.wrap, IntKind.bits, IntKind.signed]; omega
  unfold execOp
  simp only [ho, hx, hy]
  go_simp
theorem runAddI {o : Oper} {a : Act} {w : World} (x y : Operand) (tp : TypeId) (ho : o.op = .binOp .add 3 x y tp) {m n q : Nat} (hx : a.eval x = .int .i64 (m : Int)) (hy : a.eval y = .int .i64 (n : Int)) (hq : m + n = q) (hl : q < 1000000) :
    (execOp a.eval o).run Tryd.prog w = .ok (.value (.int .i64 (q : Int))) w := by
  have e : (m : Int) + (n : Int) = (q : Int) := by omega
  have hw : IntKind.i64.wrap (q : Int) = (q : Int) := by simp [IntKind.wrap, IntKind.bits, IntKind.signed]; omega
  unfold execOp
  simp only [ho, hx, hy]
  go_simp
theorem runConvB {o : Oper} {a : Act} {w : World} (x : Operand) (ho : o.op = .convert 5 45 x) {p : Nat} (hx : a.eval x = .int .u8 (p : Int)) (hp : p < 256) :
    (execOp a.eval o).run Tryd.prog w = .ok (.value (.int .u64 (p : Int))) w := by
  unfold execOp
  simp only [ho, hx]
  go_simp
  simp [IntKind.wrap, IntKind.bits, IntKind.signed]
  omega
theorem runMul256 {o : Oper} {a : Act} {w : World} (x y : Operand) (tp : TypeId) (ho : o.op = .binOp .mul 45 x y tp) {m : Nat} (hx : a.eval x = .int .u64 (m : Int)) (hy : a.eval y = .int .u64 256) (hl : m * 256 < 18446744073709551616) :
    (execOp a.eval o).run Tryd.prog w = .ok (.value (.int .u64 ((m * 256 : Nat) : Int))) w := by
  unfold execOp
  simp only [ho, hx, hy]
  go_simp
  simp [IntKind.wrap, IntKind.bits, IntKind.signed]
  omega
theorem runAdd64 {o : Oper} {a : Act} {w : World} (x y : Operand) (tp : TypeId) (ho : o.op = .binOp .add 45 x y tp) {m n q : Nat} (hx : a.eval x = .int .u64 (m : Int)) (hy : a.eval y = .int .u64 (n : Int)) (hq : (m + n) % 18446744073709551616 = q) :
    (execOp a.eval o).run Tryd.prog w = .ok (.value (.int .u64 (q : Int))) w := by
  subst hq
  unfold execOp
  simp only [ho, hx, hy]
  go_simp
  simp [IntKind.wrap, IntKind.bits, IntKind.signed]
theorem runAnd64 {o : Oper} {a : Act} {w : World} (x y : Operand) (tp : TypeId) (ho : o.op = .binOp .and 45 x y tp) (m n : Nat) (hx : a.eval x = .int .u64 (m : Int)) (hy : a.eval y = .int .u64 (n : Int)) (hm : m < 18446744073709551616) (hn : n < 18446744073709551616) :
    (execOp a.eval o).run Tryd.prog w = .ok (.value (.int .u64 ((m &&& n : Nat) : Int))) w := by
  unfold execOp
  simp only [ho, hx, hy]
  rw [← and64 m n hm hn]
  go_simp
theorem runOr64 {o : Oper} {a : Act} {w : World} (x y : Operand) (tp : TypeId) (ho : o.op = .binOp .or 45 x y tp) {m n q : Nat} (hx : a.eval x = .int .u64 (m : Int)) (hy : a.eval y = .int .u64 (n : Int)) (hm : m < 18446744073709551616) (hn : n < 18446744073709551616) (hq : m ||| n = q) :
    (execOp a.eval o).run Tryd.prog w = .ok (.value (.int .u64 ((q : Nat) : Int))) w := by
  subst hq
  unfold execOp
  simp only [ho, hx, hy]
  rw [← or64 m n hm hn]
  go_simp
theorem runNot64 {o : Oper} {a : Act} {w : World} (x : Operand) (ho : o.op = .unOp .xor 45 x) (m : Nat) (hx : a.eval x = .int .u64 (m : Int)) (hm : m < 18446744073709551616) :
    (execOp a.eval o).run Tryd.prog w = .ok (.value (.int .u64 ((18446744073709551615 - m : Nat) : Int))) w := by
  unfold execOp
  simp only [ho, hx]
  go_simp
  show bits .xor .u64 ((18446744073709551616 - 1 : Nat) : Int) (m : Int) = _
  rw [xor64 _ _ (by omega) hm]
  have := not_xor 64 m hm
  exact congrArg _ this
theorem ch_or {e : Nat} (f g : Nat) (h : e < 4294967296) : (e &&& f) ||| (notW e &&& g) = chW e f g := by
  have hn : ∀ i, (notW e).testBit i = (decide (i < 32) && !e.testBit i) := fun i => by
    have : notW e = 2 ^ 32 - (e + 1) := by unfold notW; omega
    rw [this, Nat.testBit_two_pow_sub_succ (show e < 2 ^ 32 from h)]
  apply Nat.eq_of_testBit_eq
  intro i
  unfold chW
  simp only [Nat.testBit_or, Nat.testBit_xor, Nat.testBit_and, hn]
  cases e.testBit i <;> cases f.testBit i <;> cases g.testBit i <;> cases decide (i < 32) <;> rfl
theorem maj_or (a b c : Nat) : (a &&& b) ||| (a &&& c) ||| (b &&& c) = majW a b c := by
  apply Nat.eq_of_testBit_eq
  intro i
  unfold majW
  simp only [Nat.testBit_or, Nat.testBit_xor, Nat.testBit_and]
  cases a.testBit i <;> cases b.testBit i <;> cases c.testBit i <;> rfl
theorem keep_not {x : Nat} (h : x < 4294967296) : (18446744073709551615 - x) % 4294967296 = notW x := by
  unfold notW
  omega
theorem mod_up (x : Nat) : x % 18446744073709551616 % 4294967296 = x % 4294967296 := by omega
theorem mod_upadd (x y : Nat) : (x % 18446744073709551616 + y) % 4294967296 = (x + y) % 4294967296 := by omega
theorem mod_upadd3 (x y z : Nat) : (x % 18446744073709551616 + y + z) % 4294967296 = (x + y + z) % 4294967296 := by omega
theorem mod_upadd4 (x y z t : Nat) : (x % 18446744073709551616 + y + z + t) % 4294967296 = (x + y + z + t) % 4294967296 := by omega
theorem mod_in3 (x y z : Nat) : (x % 4294967296 + y + z) % 4294967296 = (x + y + z) % 4294967296 := by omega
theorem mod_in4 (x y z t : Nat) : (x % 4294967296 + y + z + t) % 4294967296 = (x + y + z + t) % 4294967296 := by omega
theorem mod_in (x y : Nat) : (x % 4294967296 + y) % 4294967296 = (x + y) % 4294967296 := by omega
theorem next_mod (a b c d : Nat) : ((((a + b) % 18446744073709551616 + c) % 18446744073709551616 + d) % 18446744073709551616) % 4294967296 = (((d + c) % 4294967296 + b) % 4294967296 + a) % 4294967296 := by
  simp only [mod_up, mod_upadd, mod_in, mod_upadd3]
  congr 1
  omega
theorem t1_mod (a b c d e : Nat) : (((((a + b) % 18446744073709551616 + c) % 18446744073709551616 + d) % 18446744073709551616 + e) % 18446744073709551616) % 4294967296 = ((((a + b) % 4294967296 + c) % 4294967296 + d) % 4294967296 + e) % 4294967296 := by
  simp only [mod_up, mod_upadd, mod_in, mod_upadd3, mod_upadd4]
theorem part_lt {l : List Nat} (h : Words l) (i : Nat) : l.getD i 0 < 18446744073709551616 := Nat.lt_of_lt_of_le (h i) (by omega)
/-- What block keeps. -/
structure BlkS (w : World) (h : List Nat) (W : World) : Prop where
  bel : Below w.heap.size w W
  form : W.heap[w.heap.size]? = some (.cells #[.int .i64 32, .int .i64 64, .int .u64 2, .int .u64 13, .int .u64 22, .int .u64 6, .int .u64 11, .int .u64 25, .int .u64 7, .int .u64 18, .int .u64 3, .int .u64 17, .int .u64 19, .int .u64 10] 48 (0, 0))
  row : NumsAt W (w.heap.size + 1) 50 .u64 h
  res : NumsAt W (w.heap.size + 2) 50 .u64 (zeros 8)
theorem BlkS.keep {w : World} {h : List Nat} (W W1 : World) (a : BlkS w h W) (hb : Below W.heap.size W W1) : BlkS w h W1 :=
  ⟨a.bel.trans (hb.mono a.bel.size), below_heap hb (lt_of_heap a.form) a.form, a.row.below hb, a.res.below hb⟩
theorem BlkS.drew {w : World} {h : List Nat} {W : World} (a : BlkS w h W) : BlkS w h W.drew := ⟨a.bel.drew, a.form, a.row.drew, a.res.drew⟩
theorem BlkS.alloc {w : World} {h : List Nat} {W : World} (a : BlkS w h W) (o : Obj) : BlkS w h (W.alloc o) := ⟨a.bel.alloc a.bel.size o, heap_under a.form, a.row.alloc o, a.res.alloc o⟩
theorem BlkS.set {w : World} {h : List Nat} {W : World} (a : BlkS w h W) (b i : Nat) (v : Value) (hb : w.heap.size + 3 ≤ b) : BlkS w h (W.setCell ⟨b, i, none⟩ v) :=
  ⟨Below.setCell a.bel (by show w.heap.size ≤ b; omega) v, by rw [setCell_block _ _ _ _ _ (by omega)]; exact a.form, a.row.other b i v (by omega), a.res.other b i v (by omega)⟩
structure SclS (w : World) (h l : List Nat) (i : Nat) (W : World) : Prop where
  blk : BlkS w h W
  row : ∃ v, NumsAt W (w.heap.size + 3) 65 .u64 (l.set i v)
theorem SclS.form {w : World} {h l : List Nat} {i : Nat} {W : World} (a : SclS w h l i W) : W.heap[w.heap.size]? = some (.cells #[.int .i64 32, .int .i64 64, .int .u64 2, .int .u64 13, .int .u64 22, .int .u64 6, .int .u64 11, .int .u64 25, .int .u64 7, .int .u64 18, .int .u64 3, .int .u64 17, .int .u64 19, .int .u64 10] 48 (0, 0)) := a.blk.form
theorem SclS.keep {w : World} {h l : List Nat} {i : Nat} (W W1 : World) (a : SclS w h l i W) (hb : Below W.heap.size W W1) : SclS w h l i W1 := by
  obtain ⟨a1, v, a2⟩ := a
  exact ⟨a1.keep _ _ hb, v, a2.below hb⟩
theorem SclS.cellv {w : World} {h l : List Nat} {i : Nat} {W : World} (a : SclS w h l i W) (j v : Nat) (hj : j < l.length) (hji : j ≠ i) (hv : l.getD j 0 = v) : W.cell? ⟨w.heap.size + 3, j, none⟩ = some (.int .u64 ((v : Nat) : Int)) := by
  obtain ⟨_, u, c⟩ := a
  subst hv
  have := c.cell j (by rw [List.length_set]; exact hj)
  rw [this]
  simp only [List.getD, List.getElem?_set_ne (Ne.symm hji)]
structure RndS (w : World) (h x : List Nat) (kb vb : Nat) (s : List Nat) (W : World) : Prop where
  blk : BlkS w h W
  xs : NumsAt W (w.heap.size + 3) 65 .u64 x
  ks : NumsAt W kb 65 .u64 roundsL
  st : NumsAt W vb 50 .u64 s
theorem RndS.form {w : World} {h x : List Nat} {kb vb : Nat} {s : List Nat} {W : World} (a : RndS w h x kb vb s W) : W.heap[w.heap.size]? = some (.cells #[.int .i64 32, .int .i64 64, .int .u64 2, .int .u64 13, .int .u64 22, .int .u64 6, .int .u64 11, .int .u64 25, .int .u64 7, .int .u64 18, .int .u64 3, .int .u64 17, .int .u64 19, .int .u64 10] 48 (0, 0)) := a.blk.form
theorem RndS.keep {w : World} {h x : List Nat} {kb vb : Nat} {s : List Nat} (W W1 : World) (a : RndS w h x kb vb s W) (hb : Below W.heap.size W W1) : RndS w h x kb vb s W1 :=
  ⟨a.blk.keep _ _ hb, a.xs.below hb, a.ks.below hb, a.st.below hb⟩
theorem RndS.drew {w : World} {h x : List Nat} {kb vb : Nat} {s : List Nat} {W : World} (a : RndS w h x kb vb s W) : RndS w h x kb vb s W.drew := ⟨a.blk.drew, a.xs.drew, a.ks.drew, a.st.drew⟩
theorem RndS.set {w : World} {h x : List Nat} {kb vb : Nat} {s : List Nat} {W : World} (a : RndS w h x kb vb s W) (i v : Nat) (hk : w.heap.size + 3 < kb) (hv : kb < vb) : RndS w h x kb vb (s.set i v) (W.setCell ⟨vb, i, none⟩ (.int .u64 ((v : Nat) : Int))) :=
  ⟨a.blk.set vb i _ (by omega), a.xs.other vb i _ (by omega), a.ks.other vb i _ (by omega), a.st.set i v⟩
/-- The state, moved up from place j on. -/
def upF (s : List Nat) (j p : Nat) : Nat := if j < p then s.getD (p - 1) 0 else s.getD p 0
theorem up_all {s : List Nat} (h : s.length = 8) : tab (upF s 7) 8 = s := by
  apply list_ext (by rw [tab_length, h])
  intro k hk
  rw [tab_length] at hk
  rw [tab_get _ _ _ hk, upF, if_neg (by omega)]
theorem up_set (s : List Nat) (j : Nat) (hj : j + 1 < 8) : (tab (upF s (j + 1)) 8).set (j + 1) (s.getD j 0) = tab (upF s j) 8 := by
  apply list_ext (by rw [List.length_set, tab_length, tab_length])
  intro k hk
  rw [List.length_set, tab_length] at hk
  rw [getD_set _ _ _ _ (by rw [tab_length]; exact hj), tab_get _ _ _ hk, tab_get _ _ _ hk]
  unfold upF
  by_cases e : k = j + 1
  · subst e; rw [if_pos rfl, if_pos (by omega), Nat.add_sub_cancel]
  · rw [if_neg e]
    by_cases e2 : j + 1 < k
    · rw [if_pos e2, if_pos (by omega)]
    · rw [if_neg e2, if_neg (by omega)]
theorem up_end (s : List Nat) (a b : Nat) : ((tab (upF s 0) 8).set 4 a).set 0 b = [b, s.getD 0 0, s.getD 1 0, s.getD 2 0, a, s.getD 4 0, s.getD 5 0, s.getD 6 0] := by
  apply list_ext (by simp [tab_length])
  intro k hk
  rw [List.length_set, List.length_set, tab_length] at hk
  rw [getD_set _ _ _ _ (by rw [List.length_set, tab_length]; omega), getD_set _ _ _ _ (by rw [tab_length]; omega), tab_get _ _ _ hk]
  match k, hk with
  | 0, _ => rfl
  | 1, _ => rfl
  | 2, _ => rfl
  | 3, _ => rfl
  | 4, _ => rfl
  | 5, _ => rfl
  | 6, _ => rfl
  | 7, _ => rfl
  | k + 8, h => omega
structure EndS (w : World) (s : List Nat) (vb : Nat) (W : World) : Prop where
  bel : Below w.heap.size w W
  form : W.heap[w.heap.size]? = some (.cells #[.int .i64 32, .int .i64 64, .int .u64 2, .int .u64 13, .int .u64 22, .int .u64 6, .int .u64 11, .int .u64 25, .int .u64 7, .int .u64 18, .int .u64 3, .int .u64 17, .int .u64 19, .int .u64 10] 48 (0, 0))
  res : NumsAt W (w.heap.size + 2) 50 .u64 (zeros 8)
  st : NumsAt W vb 50 .u64 s
theorem EndS.keep {w : World} {s : List Nat} {vb : Nat} (W W1 : World) (a : EndS w s vb W) (hb : Below W.heap.size W W1) : EndS w s vb W1 :=
  ⟨a.bel.trans (hb.mono a.bel.size), below_heap hb (lt_of_heap a.form) a.form, a.res.below hb, a.st.below hb⟩
set_option maxHeartbeats 3200000 in
set_option maxRecDepth 100000 in
theorem block_any (h : List Nat) (b : List UInt8) (g off cap : Nat) (w : World) (hh : h.length = 8) (hhw : Words h) (_hb : b.length = 16 * 4) (hg : g < w.heap.size) (hseg : ∀ x, x < 16 * 4 → w.cell? ⟨g, off + x, none⟩ = some (.int .u8 ((byteF b x : Nat) : Int))) :
    Calls Tryd.prog 27 #[RV, .agg (nums .u64 h), .slice (some ⟨g, off, none⟩) (16 * 4) cap] w fun e w' => e = .returned (.agg (nums .u64 (stepW h tableL b))) ∧ Below w.heap.size w w' := by
  have HSTEP := Lib.hid (show stepW h tableL b = tab (sumF h (roundsW h tableL (schedL b 64) 64)) 8 from rfl)
  have HRL := Lib.hid (roundsW_length tableL (schedL b 64) hh)
  have HRW := Lib.hid (roundsW_words tableL (schedL b 64) hhw)
  have HRN := Lib.hid (show ∀ n, roundsW h tableL (schedL b 64) (n + 1) = roundW (roundsW h tableL (schedL b 64) n) (tableL.getD n 0) ((schedL b 64).getD n 0) from fun _ => rfl)
  have HR0 := Lib.hid (show roundsW h tableL (schedL b 64) 0 = h from rfl)
  have hresl : (stepW h tableL b).length = 8 := tab_length _ _
  have HSEG := Lib.hid hseg
  have HHW := Lib.hid hhw
  clear hseg hhw
  generalize stepW h tableL b = res at *
  unfold RV
  go_enter Tryd.func27, Tryd.ntmps27
  go_upto_region 1 with fail
  rw [show (#[.int .u64 0, .int .u64 0, .int .u64 0, .int .u64 0, .int .u64 0, .int .u64 0, .int .u64 0, .int .u64 0] : Array Value) = nums .u64 (zeros 8) by kernel_rfl, show w.heap.size + 1 + 1 = w.heap.size + 2 from rfl]
  have hblk : BlkS w h (((w.alloc (.cells #[.int .i64 32, .int .i64 64, .int .u64 2, .int .u64 13, .int .u64 22, .int .u64 6, .int .u64 11, .int .u64 25, .int .u64 7, .int .u64 18, .int .u64 3, .int .u64 17, .int .u64 19, .int .u64 10] 48)).alloc (.cells (nums .u64 h) 50)).alloc (.cells (nums .u64 (zeros 8)) 50)) :=
    ⟨by ((repeat' (with_reducible first | exact Below.refl _ _ | assumption | refine Below.drew ?_ | refine below_drewN ?_ _ | refine Below.setCell ?_ ?_ _ | refine Below.alloc ?_ ?_ _ | refine Below.ext ?_ ?_ _ | refine Below.trans ?_ (Below.mono ‹_› ?_))) <;> first | omega | (simp; done) | (simp; omega)), heap_under (heap_under (heap_alloc_last w _)), NumsAt.alloc (heap_at (by simp)) _, heap_at (by simp)⟩
  have hsz : (((w.alloc (.cells #[.int .i64 32, .int .i64 64, .int .u64 2, .int .u64 13, .int .u64 22, .int .u64 6, .int .u64 11, .int .u64 25, .int .u64 7, .int .u64 18, .int .u64 3, .int .u64 17, .int .u64 19, .int .u64 10] 48)).alloc (.cells (nums .u64 h) 50)).alloc (.cells (nums .u64 (zeros 8)) 50)).heap.size = w.heap.size + 3 := by simp
  generalize ((w.alloc (.cells #[.int .i64 32, .int .i64 64, .int .u64 2, .int .u64 13, .int .u64 22, .int .u64 6, .int .u64 11, .int .u64 25, .int .u64 7, .int .u64 18, .int .u64 3, .int .u64 17, .int .u64 19, .int .u64 10] 48)).alloc (.cells (nums .u64 h) 50)).alloc (.cells (nums .u64 (zeros 8)) 50) = W0 at *
  apply wp_region_lit (l := [_])
  refine Go.Great.wpList_allocTo rfl _ rfl (.pointer (some ⟨W0.heap.size, 0, none⟩)) (.cells (nums .u64 (zeros 80)) 65) (by kernel_rfl) ?_
  have hxs : NumsAt (W0.alloc (.cells (nums .u64 (zeros 80)) 65)) (w.heap.size + 3) 65 .u64 (zeros 80) := heap_at hsz
  rw [hsz]
  replace hblk := hblk.alloc (.cells (nums .u64 (zeros 80)) 65)
  generalize W0.alloc (.cells (nums .u64 (zeros 80)) 65) = W1 at *
  clear hsz
  have hf0 : W1.cell? ⟨w.heap.size, 0, none⟩ = some (.int .i64 32) := by rw [cell_of_row _ _ _ _ _ _ hblk.form]; rfl
  go_wp2
  clear hf0
  go_loopw [9] (fun s9 wr => ∃ (i : Nat) (l : List Nat), i ≤ 64 ∧ s9 = .int .i64 i ∧ l = schedL b i ++ zeros (80 - i) ∧ NumsAt wr (w.heap.size + 3) 65 .u64 l ∧ BlkS w h wr) (fun s _ => 64 - (intOf s).toNat)
  case atStart => exact ⟨0, zeros 80, by omega, rfl, by simp [schedL], hxs, hblk⟩
  case round =>
    clear hxs hblk W1
    obtain ⟨i, l, hi, rfl, hl, hrow, hblk⟩ := hrel
    have hsl := schedL_length b i
    have hll : l.length = 80 := by rw [hl, List.length_append, hsl, zeros_length]; omega
    have hf0 : wr.cell? ⟨w.heap.size, 1, none⟩ = some (.int .i64 64) := by rw [cell_of_row _ _ _ _ _ _ hblk.form]; rfl
    by_cases hend : i = 64
    · have hlt : ¬ (i : Int) < 64 := by omega
      have hx : ∀ n, n < 64 → l.getD n 0 = (schedL b 64).getD n 0 := fun n hn => by
        rw [hl, hend]; simp only [List.getD]; rw [List.getElem?_append_left (by rw [schedL_length]; exact hn)]
      have HX := Lib.hid hx
      have hxw : ∀ n, (schedL b 64).getD n 0 < 4294967296 := schedL_lt b 64
      have HXW := Lib.hid hxw
      clear hx hxw hl hend hsl
      go_wp2_with fail
      refine Calls.below (Sha.K_any _) fun W2 hW2 => ?_
      dsimp only
      rename_i K hK K2 hK2
      refine hK2 _ _ ?_
      have hblk2 := (hblk.keep _ _ hW2).alloc (.cells (nums .u64 roundsL) 65)
      have hxs2 := (hrow.below hW2).alloc (.cells (nums .u64 roundsL) 65)
      have hks2 := NumsAt.new W2 65 .u64 roundsL
      have hkb : w.heap.size + 3 < W2.heap.size := Nat.lt_of_lt_of_le hrow.lt hW2.size
      refine Sha.keep_row rfl rfl 11 rfl (nums .u64 (zeros 80)) (nums .u64 roundsL) 65 _ _ (by kernel_rfl) rfl rfl rfl rfl (by kernel_rfl) (by kernel_rfl) (by kernel_rfl) ?_
      refine wpList_nil ?_
      refine hK _ _ ?_
      clear hK2 K2 hK K hrow hblk hf0 hW2
      have hkbs : (W2.alloc (.cells (nums .u64 roundsL) 65)).heap.size = W2.heap.size + 1 := by simp
      generalize W2.alloc (.cells (nums .u64 roundsL) 65) = W3 at *
      generalize hkbe : W2.heap.size = kb at *
      clear hkbe W2
      go_upto_region 13 with fail
      apply wp_region_lit (l := [_, _, _])
      refine wpList_load_rowTo rfl _ rfl 50 _ rfl (w.heap.size + 1) rfl (nums .u64 h) 50 (0, 0) hblk2.row _ Tryd.underlying50 rfl (by rw [nums_size, hh]; kernel_rfl) ?_
      refine Go.Great.wpList_allocTo rfl _ rfl (.pointer (some ⟨W3.heap.size, 0, none⟩)) (.cells (nums .u64 (zeros 8)) 50) (by kernel_rfl) ?_
      refine wpList_store_rowTo rfl 50 _ _ rfl rfl W3.heap.size (nums .u64 h) rfl rfl 50 (nums .u64 (zeros 8)) (heap_alloc_last W3 _) (by rw [nums_size, hh]; kernel_rfl) (by rw [nums_size, nums_size, hh, zeros_length]) (nums_oneCell _ _) ?_
      rw [World.setRow_alloc_new, hkbs]
      have hst : NumsAt (W3.alloc (.cells (nums .u64 h) 50)) (kb + 1) 50 .u64 h := heap_at hkbs
      have HA := Lib.hid (show RndS w h l kb (kb + 1) h (W3.alloc (.cells (nums .u64 h) 50)) from ⟨hblk2.alloc _, hxs2.alloc _, hks2.alloc _, hst⟩)
      obtain ⟨vb, hvb⟩ : ∃ vb, vb = kb + 1 := ⟨_, rfl⟩
      rw [← hvb] at HA ⊢
      have hkv : kb < vb := by omega
      clear hvb hkbs hblk2 hxs2 hks2 hst
      generalize W3.alloc (.cells (nums .u64 h) 50) = W4 at *
      generalize roundsW h tableL (schedL b 64) = rs at *
      generalize schedL b 64 = sx at *
      go_wp2
      go_loopw [13] (fun s13 wr => ∃ n : Nat, n ≤ 64 ∧ s13 = .int .i64 n ∧ RndS w h l kb vb (rs n) wr) (fun s _ => 64 - (intOf s).toNat)
      case atStart => exact ⟨0, by omega, rfl, by rw [HR0.out]; exact HA.out⟩
      case round =>
        clear HA W4 W3
        obtain ⟨n, hn, rfl, hA⟩ := hrel
        have hsl := HRL.out n
        have hf0 : wr.cell? ⟨w.heap.size, 1, none⟩ = some (.int .i64 64) := by rw [cell_of_row _ _ _ _ _ _ hA.form]; rfl
        by_cases hend : n = 64
        · have hlt : ¬ (n : Int) < 64 := by omega
          have HT := Lib.hid (show res = tab (sumF h (rs n)) 8 by rw [HSTEP.out, hend])
          clear hend
          have HSW := Lib.hid (HRW.out n)
          generalize rs n = s at *
          go_wp2
          have hE : EndS w s vb wr := ⟨hA.blk.bel, hA.form, hA.blk.res, hA.st⟩
          have hrow := hA.blk.row
          clear hA hf0
          generalize wr = W9 at *
          go_loopw [20] (fun s20 wq => ∃ (i : Nat) (m : List Nat), i ≤ 8 ∧ s20 = .int .i64 i ∧ m = fillN (sumF h s) h i ∧ NumsAt wq (w.heap.size + 1) 50 .u64 m ∧ EndS w s vb wq) (fun s _ => 8 - (intOf s).toNat)
          case atStart => exact ⟨0, h, by omega, rfl, rfl, hrow, hE⟩
          case round =>
            clear hrow hE
            obtain ⟨i, m, hi, rfl, hl, hrow, hE⟩ := hrel
            have hml : m.length = 8 := by rw [hl, fillN_length, hh]
            have HL := Lib.hid hl
            clear hl
            by_cases hi8 : i = 8
            · have hlt8 : ¬ (i : Int) < 8 := by omega
              have hl0 : m = res := by rw [HL.out, hi8, fillN_full _ hh, HT.out]
              rw [hl0] at hrow
              clear hi8 hl0 HL hml
              have hres := hE.res
              have hbel := hE.bel
              clear hE
              go_upto_region 34 with fail
              apply wp_region_lit (l := [_, _])
              refine wpList_load_rowTo rfl _ rfl 50 _ rfl (w.heap.size + 1) rfl (nums .u64 res) 50 (0, 0) hrow _ Tryd.underlying50 rfl (by rw [nums_size, hresl]; kernel_rfl) ?_
              refine wpList_store_rowTo rfl 50 _ _ rfl rfl (w.heap.size + 2) (nums .u64 res) rfl rfl 50 (nums .u64 (zeros 8)) hres (by rw [nums_size, hresl]; kernel_rfl) (by rw [nums_size, nums_size, hresl, zeros_length]) (nums_oneCell _ _) ?_
              have hres2 := hres.setRow res
              have hbel2 := Below.setRow hbel (w.heap.size + 2) (by omega) (nums .u64 res)
              generalize wr.setRow (w.heap.size + 2) (nums .u64 res) = W8 at *
              go_wp2
              exact post_row (w.heap.size + 2) Tryd.results27 50 (nums .u64 res) _ rfl hres2 Tryd.underlying50 rfl (by rw [nums_size, hresl]; kernel_rfl) rfl ⟨rfl, hbel2⟩
            · have hlt8 : (i : Int) < 8 := by omega
              have hi8' : i < 8 := by omega
              have hlh : m.getD i 0 = h.getD i 0 := by rw [HL.out, fillN_get _ _ _ _ (by omega), if_neg (by omega)]
              have hc1 := hrow.cellv i _ (by omega) hlh
              have HSF := Lib.hid (show sumF h s i = (h.getD i 0 + s.getD i 0) % 4294967296 from rfl)
              obtain ⟨q, hq⟩ : ∃ q, s.getD i 0 = q := ⟨_, rfl⟩
              rw [hq] at HSF
              have HQ := Lib.hid hq
              clear hq hlh
              generalize h.getD i 0 = p at *
              obtain ⟨y, hy⟩ : ∃ y, (p + q) % 18446744073709551616 = y := ⟨_, rfl⟩
              have hyk : y % 4294967296 = (p + q) % 4294967296 := by rw [← hy]; exact mod_up _
              generalize (p + q) % 4294967296 = z at HSF hyk
              have HKE := Lib.hid fun W => keep_any y W (by rw [← hy]; exact Nat.mod_lt _ (by omega))
              rw [hyk] at HKE
              clear hyk
              go_upto_region 33 with fail
              have hS : EndS w s vb wr.drew := ⟨hE.bel.drew, hE.form, hE.res.drew, hE.st.drew⟩
              refine wp_region_held (S := fun W => EndS w s vb W) (by kernel_rfl) ?_
              change wpAnyH _ _ _ _ _ _ _ _ wr.drew
              refine takeH 0 rfl rfl (some 179) rfl (.int .i64 (i : Int)) (by kernel_rfl) (by kernel_rfl) (by kernel_rfl) (fun _ _ _ h => h) (fun _ _ => rfl) hS ?_
              simp only [Act.put, List.setIfInBounds_toArray, List.set_cons_zero, List.set_cons_succ]
              refine takeH 1 rfl rfl (some 180) rfl (.agg #[.int .i64 32, .int .i64 64, .int .u64 2, .int .u64 13, .int .u64 22, .int .u64 6, .int .u64 11, .int .u64 25, .int .u64 7, .int .u64 18, .int .u64 3, .int .u64 17, .int .u64 19, .int .u64 10]) (by kernel_rfl) (by kernel_rfl) (by kernel_rfl) (fun _ _ _ h => h) (fun w1 h1 => runFormR _ rfl rfl h1.form) hS ?_
              simp only [Act.put, List.setIfInBounds_toArray, List.set_cons_zero, List.set_cons_succ]
              refine takeH 2 rfl rfl (some 181) rfl (.int .i64 (i : Int)) (by kernel_rfl) (by kernel_rfl) (by kernel_rfl) (fun _ _ _ h => h) (fun _ _ => rfl) hS ?_
              simp only [Act.put, List.setIfInBounds_toArray, List.set_cons_zero, List.set_cons_succ]
              refine takeH 3 rfl rfl (some 182) rfl (.pointer (some ⟨(w.heap.size + 1), i, none⟩)) (by kernel_rfl) (by kernel_rfl) (by kernel_rfl) (fun _ _ _ h => h) (fun w1 _ => runAt _ _ _ rfl _ _ _ rfl rfl (atWord8 w1 (w.heap.size + 1) i (by omega))) hS ?_
              simp only [Act.put, List.setIfInBounds_toArray, List.set_cons_zero, List.set_cons_succ]
              refine takeH 5 rfl rfl (some 184) rfl (.int .i64 (i : Int)) (by kernel_rfl) (by kernel_rfl) (by kernel_rfl) (fun _ _ _ h => h) (fun _ _ => rfl) hS ?_
              simp only [Act.put, List.setIfInBounds_toArray, List.set_cons_zero, List.set_cons_succ]
              refine takeH 6 rfl rfl (some 185) rfl (.pointer (some ⟨vb, i, none⟩)) (by kernel_rfl) (by kernel_rfl) (by kernel_rfl) (fun _ _ _ h => h) (fun w1 _ => runAt _ _ _ rfl _ _ _ rfl rfl (atWord8 w1 vb i (by omega))) hS ?_
              simp only [Act.put, List.setIfInBounds_toArray, List.set_cons_zero, List.set_cons_succ]
              refine takeH 7 rfl rfl (some 186) rfl (.int .u64 ((q : Nat) : Int)) (by kernel_rfl) (by kernel_rfl) (by kernel_rfl) (fun _ _ _ h => h) (fun w1 h1 => runLoad _ _ rfl _ _ rfl (ldWord w1 _ _ (h1.st.cellv i q (by omega) HQ.out))) hS ?_
              simp only [Act.put, List.setIfInBounds_toArray, List.set_cons_zero, List.set_cons_succ]
              refine oneH 4 rfl rfl (by kernel_rfl) fun K hK => ?_
              refine wpH_run (w' := wr.drew) (some 183) rfl (.int .u64 ((p : Nat) : Int)) (runLoad _ _ rfl _ _ rfl (ldWord wr.drew _ _ hc1)) ?_
              simp only [Act.put, List.setIfInBounds_toArray, List.set_cons_zero, List.set_cons_succ]
              refine hK _ _ hS fun _ => ?_
              clear hK K
              refine takeH 8 rfl rfl (some 187) rfl (.int .u64 ((y : Nat) : Int)) (by kernel_rfl) (by kernel_rfl) (by kernel_rfl) (fun _ _ _ h => h) (fun w1 _ => runAdd64 _ _ _ rfl rfl rfl hy) hS ?_
              simp only [Act.put, List.setIfInBounds_toArray, List.set_cons_zero, List.set_cons_succ]
              refine oneH 9 rfl rfl (by kernel_rfl) fun K hK => ?_
              refine wpH_call (some 188) rfl 35 #[.agg #[.int .i64 32, .int .i64 64, .int .u64 2, .int .u64 13, .int .u64 22, .int .u64 6, .int .u64 11, .int .u64 25, .int .u64 7, .int .u64 18, .int .u64 3, .int .u64 17, .int .u64 19, .int .u64 10], .int .u64 ((y : Nat) : Int)] (by kernel_rfl) _ _ (HKE.out _) fun Wc1 hWc1 => ?_
              simp only [Act.put, List.setIfInBounds_toArray, List.set_cons_zero, List.set_cons_succ]
              have hSc1 := EndS.keep wr.drew Wc1 hS hWc1
              refine hK _ _ hSc1 fun _ => ?_
              clear hK K
              refine takeH 10 rfl rfl (some 189) rfl (.pointer (some ⟨(w.heap.size + 1), i, none⟩)) (by kernel_rfl) (by kernel_rfl) (by kernel_rfl) (fun _ _ _ h => h) (fun w1 _ => runAt _ _ _ rfl _ _ _ rfl rfl (atWord8 w1 (w.heap.size + 1) i (by omega))) hSc1 ?_
              simp only [Act.put, List.setIfInBounds_toArray, List.set_cons_zero, List.set_cons_succ]
              have hrow1 := hrow.drew.below hWc1
              have hcl := hrow1.cell i (by omega)
              have hfz := hrow1.frozen i
              have hS2 : EndS w s vb (Wc1.setCell ⟨w.heap.size + 1, i, none⟩ (.int .u64 ((z : Nat) : Int))) := ⟨Below.setCell hSc1.bel (by show w.heap.size ≤ w.heap.size + 1; omega) _, by rw [setCell_block _ _ _ _ _ (by omega)]; exact hSc1.form, hSc1.res.other _ i _ (by omega), hSc1.st.other _ i _ (by omega)⟩
              refine oneH 11 rfl rfl (by kernel_rfl) fun K hK => ?_
              refine wpH_skip (w' := Wc1.setCell ⟨w.heap.size + 1, i, none⟩ (.int .u64 ((z : Nat) : Int))) rfl (runStore _ _ _ rfl _ _ rfl rfl (st64 Wc1 _ i _ _ hcl hfz)) ?_
              refine hK _ _ hS2 fun _ => ?_
              clear hK K
              refine wpAnyH_done (by kernel_rfl) ?_ _
              have HE2 := Lib.hid hS2
              have HR2 := Lib.hid (hrow1.set i z)
              clear hS2 hcl hfz hrow1 hSc1 hWc1 hS hrow hE hc1 hy
              generalize Wc1.setCell ⟨w.heap.size + 1, i, none⟩ (.int .u64 ((z : Nat) : Int)) = W10 at *
              go_wp2
              go_round
              case rel => exact ⟨i + 1, m.set i z, by omega, by go_num, by rw [fillN, ← HL.out, HSF.out], HR2.out, HE2.out⟩
              case measure => simp [intOf]; omega
        · have hlt : (n : Int) < 64 := by omega
          have hn2 : n < 64 := by omega
          have hw := HRW.out n
          have HRNN := Lib.hid (HRN.out n)
          have hxn := HX.out n hn2
          have hkc := hA.ks.cell n (show n < roundsL.length from by show n < 80; omega)
          have hkt : tableL.getD n 0 = cutF (roundsL.getD n 0) := tab_get _ _ _ hn2
          have hkl : cutF (roundsL.getD n 0) < 18446744073709551616 := Nat.lt_of_lt_of_le (cutF_lt (rounds_lt n)) (by omega)
          have hkd : roundsL.getD n 0 / 2 ^ (64 - 32) = cutF (roundsL.getD n 0) := rfl
          rw [hkt] at HRNN
          clear hkt
          generalize cutF (roundsL.getD n 0) = kn at *
          generalize roundsL.getD n 0 = kr at *
          generalize rs n = s at *
          have hn80 : (n : Int) < 80 := by omega
          have hfa : wr.cell? ⟨w.heap.size, 0, none⟩ = some (.int .i64 32) := by rw [cell_of_row _ _ _ _ _ _ hA.form]; rfl
          have hkq : (kr : Int) / 4294967296 = (kn : Int) := by have h2 : kr / 4294967296 = kn := hkd; omega
          clear hkd
          obtain ⟨xn, hxe⟩ : ∃ xn, sx.getD n 0 = xn := ⟨_, rfl⟩
          rw [hxe] at HRNN hxn
          have HXN := Lib.hid hxn
          clear hxe hxn
          have HRR := Lib.hid (show roundW s kn xn = [(t1F s kn xn + t2F s) % 4294967296, s.getD 0 0, s.getD 1 0, s.getD 2 0, (s.getD 3 0 + t1F s kn xn) % 4294967296, s.getD 4 0, s.getD 5 0, s.getD 6 0] from rfl)
          have HT1 := Lib.hid (show t1F s kn xn = ((((s.getD 7 0 + bigS (s.getD 4 0) 6 11 25) % 4294967296 + chW (s.getD 4 0) (s.getD 5 0) (s.getD 6 0)) % 4294967296 + kn) % 4294967296 + xn) % 4294967296 from rfl)
          have HT2 := Lib.hid (show t2F s = (bigS (s.getD 0 0) 2 13 22 + majW (s.getD 0 0) (s.getD 1 0) (s.getD 2 0)) % 4294967296 from rfl)
          have w0 := hw 0
          have w1 := hw 1
          have w2 := hw 2
          have w3 := hw 3
          have w4 := hw 4
          have w5 := hw 5
          have w6 := hw 6
          have w7 := hw 7
          have HUE := Lib.hid (up_end s)
          have HUA := Lib.hid (up_all hsl)
          have HUS := Lib.hid (up_set s)
          obtain ⟨s0, g0⟩ : ∃ v, s.getD 0 0 = v := ⟨_, rfl⟩
          obtain ⟨s1, g1⟩ : ∃ v, s.getD 1 0 = v := ⟨_, rfl⟩
          obtain ⟨s2, g2⟩ : ∃ v, s.getD 2 0 = v := ⟨_, rfl⟩
          obtain ⟨s3, g3⟩ : ∃ v, s.getD 3 0 = v := ⟨_, rfl⟩
          obtain ⟨s4, g4⟩ : ∃ v, s.getD 4 0 = v := ⟨_, rfl⟩
          obtain ⟨s5, g5⟩ : ∃ v, s.getD 5 0 = v := ⟨_, rfl⟩
          obtain ⟨s6, g6⟩ : ∃ v, s.getD 6 0 = v := ⟨_, rfl⟩
          obtain ⟨s7, g7⟩ : ∃ v, s.getD 7 0 = v := ⟨_, rfl⟩
          rw [g0, g1, g2, g3, g4, g5, g6] at HRR
          rw [g0, g1, g2, g4, g5, g6] at HUE
          rw [g4, g5, g6, g7] at HT1
          rw [g0, g1, g2] at HT2
          rw [g0] at w0
          rw [g1] at w1
          rw [g2] at w2
          rw [g3] at w3
          rw [g4] at w4
          rw [g5] at w5
          rw [g6] at w6
          rw [g7] at w7
          have e0 := Lib.hid g0
          have e1 := Lib.hid g1
          have e2 := Lib.hid g2
          have e3 := Lib.hid g3
          have e4 := Lib.hid g4
          have e5 := Lib.hid g5
          have e6 := Lib.hid g6
          have e7 := Lib.hid g7
          clear g0 g1 g2 g3 g4 g5 g6 g7
          have l0 : s0 < 18446744073709551616 := Nat.lt_of_lt_of_le w0 (by omega)
          have l1 : s1 < 18446744073709551616 := Nat.lt_of_lt_of_le w1 (by omega)
          have l2 : s2 < 18446744073709551616 := Nat.lt_of_lt_of_le w2 (by omega)
          have l4 : s4 < 18446744073709551616 := Nat.lt_of_lt_of_le w4 (by omega)
          have l5 : s5 < 18446744073709551616 := Nat.lt_of_lt_of_le w5 (by omega)
          have l6 : s6 < 18446744073709551616 := Nat.lt_of_lt_of_le w6 (by omega)
          have HKN := Lib.hid fun W => keep_any (18446744073709551615 - s4) W (by omega)
          rw [keep_not w4] at HKN
          have hch := ch_or s5 s6 w4
          have ln4 : notW s4 < 18446744073709551616 := Nat.lt_of_lt_of_le (notW_lt s4) (by omega)
          have hmj := maj_or s0 s1 s2
          have a1 := and64 s0 s1 l0 l1
          have a2 := and64 s0 s2 l0 l2
          have a3 := and64 s1 s2 l1 l2
          have o1 := or64 (s0 &&& s1) (s0 &&& s2) (and_lt64 _ l0) (and_lt64 _ l0)
          have o2 := or64 (s0 &&& s1 ||| s0 &&& s2) (s1 &&& s2) (or_lt64 (and_lt64 _ l0) (and_lt64 _ l0)) (and_lt64 _ l1)
          rw [hmj] at o2
          have HO := Lib.hid (show bits .or .u64 (bits .or .u64 (bits .and .u64 (s0 : Int) (s1 : Int)) (bits .and .u64 (s0 : Int) (s2 : Int))) (bits .and .u64 (s1 : Int) (s2 : Int)) = ((majW s0 s1 s2 : Nat) : Int) by rw [a1, a2, a3, o1, o2])
          clear a1 a2 a3 o1 o2 hmj
          have HB1 := Lib.hid fun W => three_b1_any s4 W w4
          have HB0 := Lib.hid fun W => three_b0_any s0 W w0
          obtain ⟨z1, hz1⟩ : ∃ z, (s7 + bigS s4 6 11 25) % 18446744073709551616 = z := ⟨_, rfl⟩
          obtain ⟨z2, hz2⟩ : ∃ z, (z1 + chW s4 s5 s6) % 18446744073709551616 = z := ⟨_, rfl⟩
          obtain ⟨z3, hz3⟩ : ∃ z, (z2 + kn) % 18446744073709551616 = z := ⟨_, rfl⟩
          obtain ⟨z4, hz4⟩ : ∃ z, (z3 + xn) % 18446744073709551616 = z := ⟨_, rfl⟩
          have hm1 : z4 % 4294967296 = t1F s kn xn := by rw [HT1.out, ← hz4, ← hz3, ← hz2, ← hz1]; exact t1_mod _ _ _ _ _
          obtain ⟨z5, hz5⟩ : ∃ z, (bigS s0 2 13 22 + majW s0 s1 s2) % 18446744073709551616 = z := ⟨_, rfl⟩
          have hm2 : z5 % 4294967296 = t2F s := by rw [HT2.out, ← hz5]; exact mod_up _
          clear HT1 HT2 hw
          generalize notW s4 = n4 at *
          generalize chW s4 s5 s6 = ch at *
          generalize majW s0 s1 s2 = mj at *
          generalize bigS s4 6 11 25 = m1 at *
          generalize bigS s0 2 13 22 = m0 at *
          generalize t1F s kn xn = t1 at *
          generalize t2F s = t2 at *
          have HK1 := Lib.hid fun W => keep_any z4 W (by rw [← hz4]; exact Nat.mod_lt _ (by omega))
          have HK2 := Lib.hid fun W => keep_any z5 W (by rw [← hz5]; exact Nat.mod_lt _ (by omega))
          rw [hm1] at HK1
          rw [hm2] at HK2
          have HT1L := Lib.hid (show t1 < 4294967296 by rw [← hm1]; exact Nat.mod_lt _ (by omega))
          have HT2L := Lib.hid (show t2 < 4294967296 by rw [← hm2]; exact Nat.mod_lt _ (by omega))
          clear hm1 hm2
          go_upto_region 20 with fail
          have hS := hA.drew
          refine wp_region_held (S := fun W => RndS w h l kb vb s W) (by kernel_rfl) ?_
          change wpAnyH _ _ _ _ _ _ _ _ wr.drew
          refine takeH 0 rfl rfl (some 96) rfl (.pointer (some ⟨vb, 4, none⟩)) (by kernel_rfl) (by kernel_rfl) (by kernel_rfl) (fun _ _ _ h => h) (fun w1 _ => runAt _ _ _ rfl _ _ _ rfl rfl (atWord8 w1 vb 4 (by omega))) hS ?_
          simp only [Act.put, List.setIfInBounds_toArray, List.set_cons_zero, List.set_cons_succ]
          refine takeH 1 rfl rfl (some 97) rfl (.int .u64 ((s4 : Nat) : Int)) (by kernel_rfl) (by kernel_rfl) (by kernel_rfl) (fun _ _ _ h => h) (fun w1 h1 => runLoad _ _ rfl _ _ rfl (ldWord w1 _ _ (h1.st.cellv 4 s4 (by omega) e4.out))) hS ?_
          simp only [Act.put, List.setIfInBounds_toArray, List.set_cons_zero, List.set_cons_succ]
          refine takeH 2 rfl rfl (some 98) rfl (.pointer (some ⟨vb, 5, none⟩)) (by kernel_rfl) (by kernel_rfl) (by kernel_rfl) (fun _ _ _ h => h) (fun w1 _ => runAt _ _ _ rfl _ _ _ rfl rfl (atWord8 w1 vb 5 (by omega))) hS ?_
          simp only [Act.put, List.setIfInBounds_toArray, List.set_cons_zero, List.set_cons_succ]
          refine takeH 3 rfl rfl (some 99) rfl (.int .u64 ((s5 : Nat) : Int)) (by kernel_rfl) (by kernel_rfl) (by kernel_rfl) (fun _ _ _ h => h) (fun w1 h1 => runLoad _ _ rfl _ _ rfl (ldWord w1 _ _ (h1.st.cellv 5 s5 (by omega) e5.out))) hS ?_
          simp only [Act.put, List.setIfInBounds_toArray, List.set_cons_zero, List.set_cons_succ]
          refine takeH 4 rfl rfl (some 100) rfl (.int .u64 ((s4 &&& s5 : Nat) : Int)) (by kernel_rfl) (by kernel_rfl) (by kernel_rfl) (fun _ _ _ h => h) (fun w1 _ => runAnd64 _ _ _ rfl _ _ rfl rfl l4 l5) hS ?_
          simp only [Act.put, List.setIfInBounds_toArray, List.set_cons_zero, List.set_cons_succ]
          refine takeH 5 rfl rfl (some 101) rfl (.agg #[.int .i64 32, .int .i64 64, .int .u64 2, .int .u64 13, .int .u64 22, .int .u64 6, .int .u64 11, .int .u64 25, .int .u64 7, .int .u64 18, .int .u64 3, .int .u64 17, .int .u64 19, .int .u64 10]) (by kernel_rfl) (by kernel_rfl) (by kernel_rfl) (fun _ _ _ h => h) (fun w1 h1 => runFormR _ rfl rfl h1.form) hS ?_
          simp only [Act.put, List.setIfInBounds_toArray, List.set_cons_zero, List.set_cons_succ]
          refine takeH 6 rfl rfl (some 102) rfl (.pointer (some ⟨vb, 4, none⟩)) (by kernel_rfl) (by kernel_rfl) (by kernel_rfl) (fun _ _ _ h => h) (fun w1 _ => runAt _ _ _ rfl _ _ _ rfl rfl (atWord8 w1 vb 4 (by omega))) hS ?_
          simp only [Act.put, List.setIfInBounds_toArray, List.set_cons_zero, List.set_cons_succ]
          refine takeH 7 rfl rfl (some 103) rfl (.int .u64 ((s4 : Nat) : Int)) (by kernel_rfl) (by kernel_rfl) (by kernel_rfl) (fun _ _ _ h => h) (fun w1 h1 => runLoad _ _ rfl _ _ rfl (ldWord w1 _ _ (h1.st.cellv 4 s4 (by omega) e4.out))) hS ?_
          simp only [Act.put, List.setIfInBounds_toArray, List.set_cons_zero, List.set_cons_succ]
          refine takeH 8 rfl rfl (some 104) rfl (.int .u64 ((18446744073709551615 - s4 : Nat) : Int)) (by kernel_rfl) (by kernel_rfl) (by kernel_rfl) (fun _ _ _ h => h) (fun w1 _ => runNot64 _ rfl _ rfl l4) hS ?_
          simp only [Act.put, List.setIfInBounds_toArray, List.set_cons_zero, List.set_cons_succ]
          refine takeH 10 rfl rfl (some 106) rfl (.pointer (some ⟨vb, 6, none⟩)) (by kernel_rfl) (by kernel_rfl) (by kernel_rfl) (fun _ _ _ h => h) (fun w1 _ => runAt _ _ _ rfl _ _ _ rfl rfl (atWord8 w1 vb 6 (by omega))) hS ?_
          simp only [Act.put, List.setIfInBounds_toArray, List.set_cons_zero, List.set_cons_succ]
          refine takeH 11 rfl rfl (some 107) rfl (.int .u64 ((s6 : Nat) : Int)) (by kernel_rfl) (by kernel_rfl) (by kernel_rfl) (fun _ _ _ h => h) (fun w1 h1 => runLoad _ _ rfl _ _ rfl (ldWord w1 _ _ (h1.st.cellv 6 s6 (by omega) e6.out))) hS ?_
          simp only [Act.put, List.setIfInBounds_toArray, List.set_cons_zero, List.set_cons_succ]
          refine oneH 9 rfl rfl (by kernel_rfl) fun K hK => ?_
          refine wpH_call (some 105) rfl 35 #[.agg #[.int .i64 32, .int .i64 64, .int .u64 2, .int .u64 13, .int .u64 22, .int .u64 6, .int .u64 11, .int .u64 25, .int .u64 7, .int .u64 18, .int .u64 3, .int .u64 17, .int .u64 19, .int .u64 10], .int .u64 ((18446744073709551615 - s4 : Nat) : Int)] (by kernel_rfl) _ _ (HKN.out _) fun Wc1 hWc1 => ?_
          simp only [Act.put, List.setIfInBounds_toArray, List.set_cons_zero, List.set_cons_succ]
          have hSc1 := RndS.keep wr.drew Wc1 hS hWc1
          refine hK _ _ hSc1 fun _ => ?_
          clear hK K
          refine takeH 12 rfl rfl (some 108) rfl (.int .u64 ((n4 &&& s6 : Nat) : Int)) (by kernel_rfl) (by kernel_rfl) (by kernel_rfl) (fun _ _ _ h => h) (fun w1 _ => runAnd64 _ _ _ rfl _ _ rfl rfl ln4 l6) hSc1 ?_
          simp only [Act.put, List.setIfInBounds_toArray, List.set_cons_zero, List.set_cons_succ]
          refine takeH 13 rfl rfl (some 109) rfl (.int .u64 ((ch : Nat) : Int)) (by kernel_rfl) (by kernel_rfl) (by kernel_rfl) (fun _ _ _ h => h) (fun w1 _ => runOr64 _ _ _ rfl rfl rfl (and_lt64 _ l4) (and_lt64 _ ln4) hch) hSc1 ?_
          simp only [Act.put, List.setIfInBounds_toArray, List.set_cons_zero, List.set_cons_succ]
          refine takeH 14 rfl rfl (some 15) rfl (.int .u64 ((ch : Nat) : Int)) (by kernel_rfl) (by kernel_rfl) (by kernel_rfl) (fun _ _ _ h => h) (fun w1 _ => rfl) hSc1 ?_
          simp only [Act.put, List.setIfInBounds_toArray, List.set_cons_zero, List.set_cons_succ]
          refine wpAnyH_done (by kernel_rfl) ?_ _
          generalize Wc1 = W4 at *
          have HS4 := Lib.hid hSc1
          clear hSc1 hWc1 hS hA hkc hf0 hfa
          have c0 := HS4.out.st.cellv 0 s0 (by omega) e0.out
          have c1 := HS4.out.st.cellv 1 s1 (by omega) e1.out
          have c2 := HS4.out.st.cellv 2 s2 (by omega) e2.out
          go_upto_region 22 with fail
          rw [HO.out]
          have hS := HS4.out.drew
          clear c0 c1 c2 HS4
          refine wp_region_held (S := fun W => RndS w h l kb vb s W) (by kernel_rfl) ?_
          change wpAnyH _ _ _ _ _ _ _ _ W4.drew
          refine takeH 0 rfl rfl (some 127) rfl (.agg #[.int .i64 32, .int .i64 64, .int .u64 2, .int .u64 13, .int .u64 22, .int .u64 6, .int .u64 11, .int .u64 25, .int .u64 7, .int .u64 18, .int .u64 3, .int .u64 17, .int .u64 19, .int .u64 10]) (by kernel_rfl) (by kernel_rfl) (by kernel_rfl) (fun _ _ _ h => h) (fun w1 h1 => runFormR _ rfl rfl h1.form) hS ?_
          simp only [Act.put, List.setIfInBounds_toArray, List.set_cons_zero, List.set_cons_succ]
          refine takeH 1 rfl rfl (some 128) rfl (.pointer (some ⟨vb, 7, none⟩)) (by kernel_rfl) (by kernel_rfl) (by kernel_rfl) (fun _ _ _ h => h) (fun w1 _ => runAt _ _ _ rfl _ _ _ rfl rfl (atWord8 w1 vb 7 (by omega))) hS ?_
          simp only [Act.put, List.setIfInBounds_toArray, List.set_cons_zero, List.set_cons_succ]
          refine takeH 2 rfl rfl (some 129) rfl (.int .u64 ((s7 : Nat) : Int)) (by kernel_rfl) (by kernel_rfl) (by kernel_rfl) (fun _ _ _ h => h) (fun w1 h1 => runLoad _ _ rfl _ _ rfl (ldWord w1 _ _ (h1.st.cellv 7 s7 (by omega) e7.out))) hS ?_
          simp only [Act.put, List.setIfInBounds_toArray, List.set_cons_zero, List.set_cons_succ]
          refine takeH 3 rfl rfl (some 130) rfl (.agg #[.int .i64 32, .int .i64 64, .int .u64 2, .int .u64 13, .int .u64 22, .int .u64 6, .int .u64 11, .int .u64 25, .int .u64 7, .int .u64 18, .int .u64 3, .int .u64 17, .int .u64 19, .int .u64 10]) (by kernel_rfl) (by kernel_rfl) (by kernel_rfl) (fun _ _ _ h => h) (fun w1 h1 => runFormR _ rfl rfl h1.form) hS ?_
          simp only [Act.put, List.setIfInBounds_toArray, List.set_cons_zero, List.set_cons_succ]
          refine takeH 4 rfl rfl (some 131) rfl (.pointer (some ⟨vb, 4, none⟩)) (by kernel_rfl) (by kernel_rfl) (by kernel_rfl) (fun _ _ _ h => h) (fun w1 _ => runAt _ _ _ rfl _ _ _ rfl rfl (atWord8 w1 vb 4 (by omega))) hS ?_
          simp only [Act.put, List.setIfInBounds_toArray, List.set_cons_zero, List.set_cons_succ]
          refine takeH 5 rfl rfl (some 132) rfl (.int .u64 ((s4 : Nat) : Int)) (by kernel_rfl) (by kernel_rfl) (by kernel_rfl) (fun _ _ _ h => h) (fun w1 h1 => runLoad _ _ rfl _ _ rfl (ldWord w1 _ _ (h1.st.cellv 4 s4 (by omega) e4.out))) hS ?_
          simp only [Act.put, List.setIfInBounds_toArray, List.set_cons_zero, List.set_cons_succ]
          refine takeH 8 rfl rfl (some 135) rfl (.int .u64 ((ch : Nat) : Int)) (by kernel_rfl) (by kernel_rfl) (by kernel_rfl) (fun _ _ _ h => h) (fun _ _ => rfl) hS ?_
          simp only [Act.put, List.setIfInBounds_toArray, List.set_cons_zero, List.set_cons_succ]
          refine takeH 10 rfl rfl (some 137) rfl (.int .u64 ((kn : Nat) : Int)) (by kernel_rfl) (by kernel_rfl) (by kernel_rfl) (fun _ _ _ h => h) (fun _ _ => rfl) hS ?_
          simp only [Act.put, List.setIfInBounds_toArray, List.set_cons_zero, List.set_cons_succ]
          refine takeH 12 rfl rfl (some 139) rfl (.int .i64 (n : Int)) (by kernel_rfl) (by kernel_rfl) (by kernel_rfl) (fun _ _ _ h => h) (fun _ _ => rfl) hS ?_
          simp only [Act.put, List.setIfInBounds_toArray, List.set_cons_zero, List.set_cons_succ]
          refine takeH 13 rfl rfl (some 140) rfl (.pointer (some ⟨w.heap.size + 3, n, none⟩)) (by kernel_rfl) (by kernel_rfl) (by kernel_rfl) (fun _ _ _ h => h) (fun w1 _ => runAt _ _ _ rfl _ _ _ rfl rfl (atRounds w1 _ n (by omega))) hS ?_
          simp only [Act.put, List.setIfInBounds_toArray, List.set_cons_zero, List.set_cons_succ]
          refine takeH 14 rfl rfl (some 141) rfl (.int .u64 ((xn : Nat) : Int)) (by kernel_rfl) (by kernel_rfl) (by kernel_rfl) (fun _ _ _ h => h) (fun w1 h1 => runLoad _ _ rfl _ _ rfl (ldWord w1 _ _ (h1.xs.cellv n xn (by omega) HXN.out))) hS ?_
          simp only [Act.put, List.setIfInBounds_toArray, List.set_cons_zero, List.set_cons_succ]
          refine oneH 6 rfl rfl (by kernel_rfl) fun K hK => ?_
          refine wpH_call (some 133) rfl 36 #[.agg #[.int .i64 32, .int .i64 64, .int .u64 2, .int .u64 13, .int .u64 22, .int .u64 6, .int .u64 11, .int .u64 25, .int .u64 7, .int .u64 18, .int .u64 3, .int .u64 17, .int .u64 19, .int .u64 10], .int .u64 ((s4 : Nat) : Int), .int .i64 3, .bool false] (by kernel_rfl) _ _ (HB1.out _) fun Wc1 hWc1 => ?_
          simp only [Act.put, List.setIfInBounds_toArray, List.set_cons_zero, List.set_cons_succ]
          have hSc1 := RndS.keep W4.drew Wc1 hS hWc1
          refine hK _ _ hSc1 fun _ => ?_
          clear hK K
          refine takeH 7 rfl rfl (some 134) rfl (.int .u64 ((z1 : Nat) : Int)) (by kernel_rfl) (by kernel_rfl) (by kernel_rfl) (fun _ _ _ h => h) (fun w1 _ => runAdd64 _ _ _ rfl rfl rfl hz1) hSc1 ?_
          simp only [Act.put, List.setIfInBounds_toArray, List.set_cons_zero, List.set_cons_succ]
          refine takeH 9 rfl rfl (some 136) rfl (.int .u64 ((z2 : Nat) : Int)) (by kernel_rfl) (by kernel_rfl) (by kernel_rfl) (fun _ _ _ h => h) (fun w1 _ => runAdd64 _ _ _ rfl rfl rfl hz2) hSc1 ?_
          simp only [Act.put, List.setIfInBounds_toArray, List.set_cons_zero, List.set_cons_succ]
          refine takeH 11 rfl rfl (some 138) rfl (.int .u64 ((z3 : Nat) : Int)) (by kernel_rfl) (by kernel_rfl) (by kernel_rfl) (fun _ _ _ h => h) (fun w1 _ => runAdd64 _ _ _ rfl rfl rfl hz3) hSc1 ?_
          simp only [Act.put, List.setIfInBounds_toArray, List.set_cons_zero, List.set_cons_succ]
          refine takeH 15 rfl rfl (some 142) rfl (.int .u64 ((z4 : Nat) : Int)) (by kernel_rfl) (by kernel_rfl) (by kernel_rfl) (fun _ _ _ h => h) (fun w1 _ => runAdd64 _ _ _ rfl rfl rfl hz4) hSc1 ?_
          simp only [Act.put, List.setIfInBounds_toArray, List.set_cons_zero, List.set_cons_succ]
          refine oneH 16 rfl rfl (by kernel_rfl) fun K hK => ?_
          refine wpH_call (some 143) rfl 35 #[.agg #[.int .i64 32, .int .i64 64, .int .u64 2, .int .u64 13, .int .u64 22, .int .u64 6, .int .u64 11, .int .u64 25, .int .u64 7, .int .u64 18, .int .u64 3, .int .u64 17, .int .u64 19, .int .u64 10], .int .u64 ((z4 : Nat) : Int)] (by kernel_rfl) _ _ (HK1.out _) fun Wc2 hWc2 => ?_
          simp only [Act.put, List.setIfInBounds_toArray, List.set_cons_zero, List.set_cons_succ]
          have hSc2 := RndS.keep Wc1 Wc2 hSc1 hWc2
          refine hK _ _ hSc2 fun _ => ?_
          clear hK K
          refine takeH 17 rfl rfl (some 17) rfl (.int .u64 ((t1 : Nat) : Int)) (by kernel_rfl) (by kernel_rfl) (by kernel_rfl) (fun _ _ _ h => h) (fun w1 _ => rfl) hSc2 ?_
          simp only [Act.put, List.setIfInBounds_toArray, List.set_cons_zero, List.set_cons_succ]
          refine wpAnyH_done (by kernel_rfl) ?_ _
          generalize Wc2 = W5 at *
          have HS5 := Lib.hid hSc2
          clear hSc2 hWc2 hSc1 hWc1 hS
          go_upto_region 23 with fail
          have hS := HS5.out.drew
          clear HS5
          refine wp_region_held (S := fun W => RndS w h l kb vb s W) (by kernel_rfl) ?_
          change wpAnyH _ _ _ _ _ _ _ _ W5.drew
          refine takeH 0 rfl rfl (some 144) rfl (.agg #[.int .i64 32, .int .i64 64, .int .u64 2, .int .u64 13, .int .u64 22, .int .u64 6, .int .u64 11, .int .u64 25, .int .u64 7, .int .u64 18, .int .u64 3, .int .u64 17, .int .u64 19, .int .u64 10]) (by kernel_rfl) (by kernel_rfl) (by kernel_rfl) (fun _ _ _ h => h) (fun w1 h1 => runFormR _ rfl rfl h1.form) hS ?_
          simp only [Act.put, List.setIfInBounds_toArray, List.set_cons_zero, List.set_cons_succ]
          refine takeH 1 rfl rfl (some 145) rfl (.agg #[.int .i64 32, .int .i64 64, .int .u64 2, .int .u64 13, .int .u64 22, .int .u64 6, .int .u64 11, .int .u64 25, .int .u64 7, .int .u64 18, .int .u64 3, .int .u64 17, .int .u64 19, .int .u64 10]) (by kernel_rfl) (by kernel_rfl) (by kernel_rfl) (fun _ _ _ h => h) (fun w1 h1 => runFormR _ rfl rfl h1.form) hS ?_
          simp only [Act.put, List.setIfInBounds_toArray, List.set_cons_zero, List.set_cons_succ]
          refine takeH 2 rfl rfl (some 146) rfl (.pointer (some ⟨vb, 0, none⟩)) (by kernel_rfl) (by kernel_rfl) (by kernel_rfl) (fun _ _ _ h => h) (fun w1 _ => runAt _ _ _ rfl _ _ _ rfl rfl (atWord8 w1 vb 0 (by omega))) hS ?_
          simp only [Act.put, List.setIfInBounds_toArray, List.set_cons_zero, List.set_cons_succ]
          refine takeH 3 rfl rfl (some 147) rfl (.int .u64 ((s0 : Nat) : Int)) (by kernel_rfl) (by kernel_rfl) (by kernel_rfl) (fun _ _ _ h => h) (fun w1 h1 => runLoad _ _ rfl _ _ rfl (ldWord w1 _ _ (h1.st.cellv 0 s0 (by omega) e0.out))) hS ?_
          simp only [Act.put, List.setIfInBounds_toArray, List.set_cons_zero, List.set_cons_succ]
          refine takeH 5 rfl rfl (some 149) rfl (.int .u64 ((mj : Nat) : Int)) (by kernel_rfl) (by kernel_rfl) (by kernel_rfl) (fun _ _ _ h => h) (fun _ _ => rfl) hS ?_
          simp only [Act.put, List.setIfInBounds_toArray, List.set_cons_zero, List.set_cons_succ]
          refine oneH 4 rfl rfl (by kernel_rfl) fun K hK => ?_
          refine wpH_call (some 148) rfl 36 #[.agg #[.int .i64 32, .int .i64 64, .int .u64 2, .int .u64 13, .int .u64 22, .int .u64 6, .int .u64 11, .int .u64 25, .int .u64 7, .int .u64 18, .int .u64 3, .int .u64 17, .int .u64 19, .int .u64 10], .int .u64 ((s0 : Nat) : Int), .int .i64 0, .bool false] (by kernel_rfl) _ _ (HB0.out _) fun Wc1 hWc1 => ?_
          simp only [Act.put, List.setIfInBounds_toArray, List.set_cons_zero, List.set_cons_succ]
          have hSc1 := RndS.keep W5.drew Wc1 hS hWc1
          refine hK _ _ hSc1 fun _ => ?_
          clear hK K
          refine takeH 6 rfl rfl (some 150) rfl (.int .u64 ((z5 : Nat) : Int)) (by kernel_rfl) (by kernel_rfl) (by kernel_rfl) (fun _ _ _ h => h) (fun w1 _ => runAdd64 _ _ _ rfl rfl rfl hz5) hSc1 ?_
          simp only [Act.put, List.setIfInBounds_toArray, List.set_cons_zero, List.set_cons_succ]
          refine oneH 7 rfl rfl (by kernel_rfl) fun K hK => ?_
          refine wpH_call (some 151) rfl 35 #[.agg #[.int .i64 32, .int .i64 64, .int .u64 2, .int .u64 13, .int .u64 22, .int .u64 6, .int .u64 11, .int .u64 25, .int .u64 7, .int .u64 18, .int .u64 3, .int .u64 17, .int .u64 19, .int .u64 10], .int .u64 ((z5 : Nat) : Int)] (by kernel_rfl) _ _ (HK2.out _) fun Wc2 hWc2 => ?_
          simp only [Act.put, List.setIfInBounds_toArray, List.set_cons_zero, List.set_cons_succ]
          have hSc2 := RndS.keep Wc1 Wc2 hSc1 hWc2
          refine hK _ _ hSc2 fun _ => ?_
          clear hK K
          refine takeH 8 rfl rfl (some 18) rfl (.int .u64 ((t2 : Nat) : Int)) (by kernel_rfl) (by kernel_rfl) (by kernel_rfl) (fun _ _ _ h => h) (fun w1 _ => rfl) hSc2 ?_
          simp only [Act.put, List.setIfInBounds_toArray, List.set_cons_zero, List.set_cons_succ]
          refine wpAnyH_done (by kernel_rfl) ?_ _
          generalize Wc2 = W6 at *
          have hA := hSc2
          clear hSc2 hWc2 hSc1 hWc1 hS hz1 hz2 hz3 hz4 hz5
          go_wp2
          go_loopw [19] (fun s19 wq => ∃ j : Nat, j ≤ 7 ∧ s19 = .int .i64 j ∧ RndS w h l kb vb (tab (upF s j) 8) wq) (fun s _ => (intOf s).toNat)
          case atStart => exact ⟨7, by omega, rfl, by rw [HUA.out]; exact hA⟩
          case round =>
            clear hA
            obtain ⟨j, hj, rfl, hA⟩ := hrel
            by_cases hj0 : j = 0
            · have hjlt : ¬ 0 < (j : Int) := by omega
              subst hj0
              obtain ⟨ya, hya⟩ : ∃ y, (s3 + t1) % 18446744073709551616 = y := ⟨_, rfl⟩
              obtain ⟨yb, hyb⟩ : ∃ y, (t1 + t2) % 18446744073709551616 = y := ⟨_, rfl⟩
              have hka : ya % 4294967296 = (s3 + t1) % 4294967296 := by rw [← hya]; exact mod_up _
              have hkb2 : yb % 4294967296 = (t1 + t2) % 4294967296 := by rw [← hyb]; exact mod_up _
              have HKA := Lib.hid fun W => keep_any ya W (by rw [← hya]; exact Nat.mod_lt _ (by omega))
              have HKB := Lib.hid fun W => keep_any yb W (by rw [← hyb]; exact Nat.mod_lt _ (by omega))
              rw [hka] at HKA
              rw [hkb2] at HKB
              have hwa : IntKind.u64.wrap ((s3 : Int) + (t1 : Int)) = (ya : Int) := by rw [← hya]; simp [IntKind.wrap, IntKind.bits, IntKind.signed]
              have hwb : IntKind.u64.wrap ((t1 : Int) + (t2 : Int)) = (yb : Int) := by rw [← hyb]; simp [IntKind.wrap, IntKind.bits, IntKind.signed]
              clear hya hyb hka hkb2
              generalize (s3 + t1) % 4294967296 = va at *
              generalize (t1 + t2) % 4294967296 = vbv at *
              have hform := hA.form
              have h4 := hA.st.cellv 4 s3 (by rw [tab_length]; omega) e3.out
              have HA2 := Lib.hid hA
              clear hA
              go_wp2_with (with_reducible refine stop_load (t := 48) rfl ?_)
              refine Lib.hid ?_
              refine wpList_load_rowTo rfl _ rfl 48 _ rfl w.heap.size rfl _ _ (0, 0) hform _ Tryd.underlying48 rfl (by kernel_rfl) ?_
              go_wp2_with fail
              refine Calls.below (HKA.out _) fun W8 hW8 => ?_
              have hA8 := HA2.out.keep _ _ hW8
              have c4 := hA8.st.cell 4 (by rw [tab_length]; omega)
              have f4 := hA8.st.frozen 4
              have HA8 := Lib.hid (hA8.set 4 va hkb hkv)
              clear hA8 hform h4 hwa HA2
              go_wp2_with (with_reducible refine stop_load (t := 48) rfl ?_)
              refine Lib.hid ?_
              generalize W8.setCell ⟨vb, 4, none⟩ (.int .u64 ((va : Nat) : Int)) = W9 at *
              refine wpList_load_rowTo rfl _ rfl 48 _ rfl w.heap.size rfl _ _ (0, 0) HA8.out.form _ Tryd.underlying48 rfl (by kernel_rfl) ?_
              clear c4 f4 hW8
              go_wp2_with fail
              refine Calls.below (HKB.out _) fun W10 hW10 => ?_
              have hA10 := HA8.out.keep _ _ hW10
              have c0 := hA10.st.cell 0 (by rw [List.length_set, tab_length]; omega)
              have f0 := hA10.st.frozen 0
              have hA11 := hA10.set 0 vbv hkb hkv
              rw [HUE.out, ← HRR.out, ← HRNN.out] at hA11
              have HA11 := Lib.hid hA11
              clear hA10 hA11 hwb HA8 hW10
              go_wp2
              go_round
              case rel => exact ⟨n + 1, by omega, by go_num, HA11.out⟩
              case measure => simp [intOf]; omega
            · have hjlt : 0 < (j : Int) := by omega
              obtain ⟨k, rfl⟩ : ∃ k, j = k + 1 := ⟨j - 1, by omega⟩
              have hk8 : (k : Int) < 8 := by omega
              have hk18 : (k : Int) + 1 < 8 := by omega
              have hck := hA.st.cellv k (s.getD k 0) (by rw [tab_length]; omega) (by rw [tab_get _ _ _ (by omega), upF, if_neg (by omega)])
              have hcj := hA.st.cell (k + 1) (by rw [tab_length]; omega)
              have hfz := hA.st.frozen (k + 1)
              have HSK := Lib.hid (HUS.out k (by omega))
              generalize s.getD k 0 = sk at *
              have hA2 := hA.set (k + 1) sk hkb hkv
              rw [HSK.out] at hA2
              have HA2 := Lib.hid hA2
              clear hA2 hA
              go_wp2
              go_round
              case rel => exact ⟨k, by omega, by go_num, HA2.out⟩
              case measure => simp [intOf]
    · have hlt : (i : Int) < 64 := by omega
      have hi2 : i < 64 := by omega
      have hold : ∀ j, j < i → l.getD j 0 = (schedL b i).getD j 0 := fun j hj => by
        rw [hl]; simp only [List.getD]; rw [List.getElem?_append_left (by rw [hsl]; exact hj)]
      have hset : ∀ v, l.set i v = (schedL b i ++ [v]) ++ zeros (80 - (i + 1)) := fun v => by
        rw [hl, show 80 - i = (80 - (i + 1)) + 1 by omega]
        have := set_mid (schedL b i) (80 - (i + 1)) v
        rw [hsl] at this
        exact this
      have hnew : l.getD i 0 = 0 := by
        rw [hl]; simp only [List.getD]; rw [List.getElem?_append_right (by rw [hsl]; exact Nat.le_refl _), hsl, Nat.sub_self, show 80 - i = (80 - (i + 1)) + 1 by omega]; rfl
      have HSET := Lib.hid hset
      have HNEXT := Lib.hid (show schedL b (i + 1) = schedL b i ++ [if i < 16 then wb b i 4 else nextS (schedL b i) i] from rfl)
      by_cases h16 : i < 16
      · have h16i : (i : Int) < 16 := by omega
        rw [if_pos h16] at HNEXT
        have hnew0 : l.set i (wb b i 0) = l := Sha.set_zero (by omega) hnew
        have HHOLD := Lib.hid hold
        clear hold hset hl hsl hnew
        go_wp2
        clear hf0
        go_loopw [10] (fun s10 wi => ∃ (j : Nat), j ≤ 4 ∧ s10 = .int .i64 j ∧ NumsAt wi (w.heap.size + 3) 65 .u64 (l.set i (wb b i j)) ∧ BlkS w h wi) (fun s _ => 4 - (intOf s).toNat)
        case atStart => exact ⟨0, by omega, rfl, by rw [hnew0]; exact hrow, hblk⟩
        case round =>
          clear hrow hblk hnew0
          obtain ⟨j, hj, rfl, hrow, hblk⟩ := hrel
          have hwb := wb_lt b i j
          by_cases hjB : j = 4
          · have hjlt : ¬ (j : Int) < 4 := by omega
            rw [hjB] at hrow
            clear hjB hwb
            go_wp2
            go_round
            case rel => exact ⟨i + 1, l.set i (wb b i 4), by omega, by go_num, by rw [HSET.out, HNEXT.out], hrow, hblk⟩
            case measure => simp [intOf]; omega
          · have hjlt : (j : Int) < 4 := by omega
            have hjl : j < 4 := by omega
            obtain ⟨q, hq⟩ : ∃ q, 4 * i + j = q := ⟨_, rfl⟩
            have hql : q < 16 * 4 := by omega
            have hc1 := HSEG.out q hql
            rw [show byteF b q = byteF b (i * 4 + j) by rw [show q = i * 4 + j by omega]] at hc1
            have hc2 := hrow.cellv i (wb b i j) (by rw [List.length_set, hll]; omega) (by rw [getD_set _ _ _ _ (by omega), if_pos rfl])
            have hfz := hrow.frozen i
            have hby := byteF_lt b (i * 4 + j)
            have HWB := Lib.hid (show wb b i (j + 1) = wb b i j * 256 + byteF b (i * 4 + j) from rfl)
            have hxs2 : wb b i j * 256 + 255 < 4294967296 := by
              have h1 : 256 ^ j * 256 ≤ 256 ^ 4 := by rw [← Nat.pow_succ]; exact Nat.pow_le_pow_right (by omega) (by omega)
              have h2 : (256 : Nat) ^ 4 = 4294967296 := by decide
              omega
            generalize wb b i j = x at *
            generalize byteF b (i * 4 + j) = c at *
            have hxs : x * 256 < 18446744073709551616 := by omega
            obtain ⟨y, hy⟩ : ∃ y, (x * 256 + c) % 18446744073709551616 = y := ⟨_, rfl⟩
            have HY := Lib.hid (show x * 256 + c = y by omega)
            go_upto_region 10 with fail
            have hS : wr.drew.cell? ⟨g, off + q, none⟩ = some (.int .u8 ((c : Nat) : Int)) := by
              show wr.cell? ⟨g, off + q, none⟩ = _
              rw [hblk.bel.cell (p := ⟨g, off + q, none⟩) hg]
              exact hc1
            refine wp_region_held (S := fun W => W.cell? ⟨g, off + q, none⟩ = some (.int .u8 ((c : Nat) : Int))) (by kernel_rfl) ?_
            change wpAnyH _ _ _ _ _ _ _ _ wr.drew
            refine takeH 0 rfl rfl (some 37) rfl (.int .i64 (i : Int)) (by kernel_rfl) (by kernel_rfl) (by kernel_rfl) (fun _ _ _ h => h) (fun _ _ => rfl) hS ?_
            simp only [Act.put, List.setIfInBounds_toArray, List.set_cons_zero, List.set_cons_succ]
            refine takeH 1 rfl rfl (some 38) rfl (.int .i64 (i : Int)) (by kernel_rfl) (by kernel_rfl) (by kernel_rfl) (fun _ _ _ h => h) (fun _ _ => rfl) hS ?_
            simp only [Act.put, List.setIfInBounds_toArray, List.set_cons_zero, List.set_cons_succ]
            refine takeH 2 rfl rfl (some 39) rfl (.pointer (some ⟨w.heap.size + 3, i, none⟩)) (by kernel_rfl) (by kernel_rfl) (by kernel_rfl) (fun _ _ _ h => h) (fun w1 _ => runAt _ _ _ rfl _ _ _ rfl rfl (atRounds w1 _ i (by omega))) hS ?_
            simp only [Act.put, List.setIfInBounds_toArray, List.set_cons_zero, List.set_cons_succ]
            refine takeH 5 rfl rfl (some 42) rfl (.slice (some ⟨g, off, none⟩) (16 * 4) cap) (by kernel_rfl) (by kernel_rfl) (by kernel_rfl) (fun _ _ _ h => h) (fun _ _ => rfl) hS ?_
            simp only [Act.put, List.setIfInBounds_toArray, List.set_cons_zero, List.set_cons_succ]
            refine takeH 6 rfl rfl (some 43) rfl (.int .i64 4) (by kernel_rfl) (by kernel_rfl) (by kernel_rfl) (fun _ _ _ h => h) (fun _ _ => rfl) hS ?_
            simp only [Act.put, List.setIfInBounds_toArray, List.set_cons_zero, List.set_cons_succ]
            refine takeH 7 rfl rfl (some 44) rfl (.int .i64 (i : Int)) (by kernel_rfl) (by kernel_rfl) (by kernel_rfl) (fun _ _ _ h => h) (fun _ _ => rfl) hS ?_
            simp only [Act.put, List.setIfInBounds_toArray, List.set_cons_zero, List.set_cons_succ]
            refine takeH 8 rfl rfl (some 45) rfl (.int .i64 ((4 * i : Nat) : Int)) (by kernel_rfl) (by kernel_rfl) (by kernel_rfl) (fun _ _ _ h => h) (fun w1 _ => runMulI _ _ _ rfl rfl rfl rfl (by omega)) hS ?_
            simp only [Act.put, List.setIfInBounds_toArray, List.set_cons_zero, List.set_cons_succ]
            refine takeH 9 rfl rfl (some 46) rfl (.int .i64 (j : Int)) (by kernel_rfl) (by kernel_rfl) (by kernel_rfl) (fun _ _ _ h => h) (fun _ _ => rfl) hS ?_
            simp only [Act.put, List.setIfInBounds_toArray, List.set_cons_zero, List.set_cons_succ]
            refine takeH 10 rfl rfl (some 47) rfl (.int .i64 (q : Int)) (by kernel_rfl) (by kernel_rfl) (by kernel_rfl) (fun _ _ _ h => h) (fun w1 _ => runAddI _ _ _ rfl rfl rfl hq (by omega)) hS ?_
            simp only [Act.put, List.setIfInBounds_toArray, List.set_cons_zero, List.set_cons_succ]
            refine takeH 11 rfl rfl (some 48) rfl (.pointer (some ⟨g, off + q, none⟩)) (by kernel_rfl) (by kernel_rfl) (by kernel_rfl) (fun _ _ _ h => h) (fun w1 _ => runAt _ _ _ rfl _ _ _ rfl rfl (atBytes w1 _ _ q _ _ hql)) hS ?_
            simp only [Act.put, List.setIfInBounds_toArray, List.set_cons_zero, List.set_cons_succ]
            refine takeH 12 rfl rfl (some 49) rfl (.int .u8 ((c : Nat) : Int)) (by kernel_rfl) (by kernel_rfl) (by kernel_rfl) (fun _ _ _ h => h) (fun w1 h1 => runLoad _ _ rfl _ _ rfl (ldByte w1 _ _ h1)) hS ?_
            simp only [Act.put, List.setIfInBounds_toArray, List.set_cons_zero, List.set_cons_succ]
            refine takeH 13 rfl rfl (some 50) rfl (.int .u64 ((c : Nat) : Int)) (by kernel_rfl) (by kernel_rfl) (by kernel_rfl) (fun _ _ _ h => h) (fun w1 _ => runConvB _ rfl rfl hby) hS ?_
            simp only [Act.put, List.setIfInBounds_toArray, List.set_cons_zero, List.set_cons_succ]
            refine oneH 3 rfl rfl (by kernel_rfl) fun K hK => ?_
            refine wpH_run (w' := wr.drew) (some 40) rfl (.int .u64 ((x : Nat) : Int)) (runLoad _ _ rfl _ _ rfl (ldWord wr.drew _ _ hc2)) ?_
            simp only [Act.put, List.setIfInBounds_toArray, List.set_cons_zero, List.set_cons_succ]
            refine hK _ _ hS fun _ => ?_
            clear hK K
            refine takeH 4 rfl rfl (some 41) rfl (.int .u64 ((x * 256 : Nat) : Int)) (by kernel_rfl) (by kernel_rfl) (by kernel_rfl) (fun _ _ _ h => h) (fun w1 _ => runMul256 _ _ _ rfl rfl rfl hxs) hS ?_
            simp only [Act.put, List.setIfInBounds_toArray, List.set_cons_zero, List.set_cons_succ]
            refine takeH 14 rfl rfl (some 51) rfl (.int .u64 ((y : Nat) : Int)) (by kernel_rfl) (by kernel_rfl) (by kernel_rfl) (fun _ _ _ h => h) (fun w1 _ => runAdd64 _ _ _ rfl rfl rfl hy) hS ?_
            simp only [Act.put, List.setIfInBounds_toArray, List.set_cons_zero, List.set_cons_succ]
            refine takeH 15 rfl rfl (some 52) rfl (.pointer (some ⟨w.heap.size + 3, i, none⟩)) (by kernel_rfl) (by kernel_rfl) (by kernel_rfl) (fun _ _ _ h => h) (fun w1 _ => runAt _ _ _ rfl _ _ _ rfl rfl (atRounds w1 _ i (by omega))) hS ?_
            simp only [Act.put, List.setIfInBounds_toArray, List.set_cons_zero, List.set_cons_succ]
            have hS2 : (wr.drew.setCell ⟨w.heap.size + 3, i, none⟩ (.int .u64 ((y : Nat) : Int))).cell? ⟨g, off + q, none⟩ = some (.int .u8 ((c : Nat) : Int)) := by
              rw [World.cell?_of_block (setCell_block _ _ _ _ _ (by show ¬ w.heap.size + 3 = g; omega))]
              exact hS
            refine oneH 16 rfl rfl (by kernel_rfl) fun K hK => ?_
            refine wpH_skip (w' := wr.drew.setCell ⟨w.heap.size + 3, i, none⟩ (.int .u64 ((y : Nat) : Int))) rfl (runStore _ _ _ rfl _ _ rfl rfl (st64 wr.drew _ i _ _ hc2 hfz)) ?_
            refine hK _ _ hS2 fun _ => ?_
            clear hK K
            refine wpAnyH_done (by kernel_rfl) ?_ _
            have HB2 := Lib.hid (hblk.drew.set (w.heap.size + 3) i (.int .u64 ((y : Nat) : Int)) (Nat.le_refl _))
            have hr2 := hrow.drew.set i y
            rw [List.set_set] at hr2
            have HR2 := Lib.hid hr2
            clear hr2 hS hS2 hc1 hc2 hfz hrow hblk hxs2
            generalize wr.drew.setCell ⟨w.heap.size + 3, i, none⟩ (.int .u64 ((y : Nat) : Int)) = W9 at *
            go_wp2
            go_round
            case rel => exact ⟨j + 1, by omega, by go_num, by rw [HWB.out, HY.out]; exact HR2.out, HB2.out⟩
            case measure => simp [intOf]; omega
      · have h16i : ¬ (i : Int) < 16 := by omega
        have hNX : nextS (schedL b i) i = (((smallS (l.getD (i - 2) 0) 17 19 10 + l.getD (i - 7) 0) % 4294967296 + smallS (l.getD (i - 15) 0) 7 18 3) % 4294967296 + l.getD (i - 16) 0) % 4294967296 := by
          rw [hold _ (by omega), hold _ (by omega), hold _ (by omega), hold _ (by omega)]; rfl
        have hb2 : l.getD (i - 2) 0 < 4294967296 := by rw [hold _ (by omega)]; exact schedL_lt b i _
        have hb15 : l.getD (i - 15) 0 < 4294967296 := by rw [hold _ (by omega)]; exact schedL_lt b i _
        rw [if_neg h16] at HNEXT
        obtain ⟨x2, hx2⟩ : ∃ v, l.getD (i - 2) 0 = v := ⟨_, rfl⟩
        obtain ⟨x7, hx7⟩ : ∃ v, l.getD (i - 7) 0 = v := ⟨_, rfl⟩
        obtain ⟨x15, hx15⟩ : ∃ v, l.getD (i - 15) 0 = v := ⟨_, rfl⟩
        obtain ⟨x16, hx16⟩ : ∃ v, l.getD (i - 16) 0 = v := ⟨_, rfl⟩
        rw [hx2, hx7, hx15, hx16] at hNX
        rw [hx2] at hb2
        rw [hx15] at hb15
        have HX2 := Lib.hid hx2
        have HX7 := Lib.hid hx7
        have HX15 := Lib.hid hx15
        have HX16 := Lib.hid hx16
        have HS0 := Lib.hid fun W => three_s0_any x15 W hb15
        have HS1 := Lib.hid fun W => three_s1_any x2 W hb2
        have hnm := next_mod x16 (smallS x15 7 18 3) x7 (smallS x2 17 19 10)
        rw [← hNX] at hnm
        have hnew0 : l.set i 0 = l := Sha.set_zero (by omega) hnew
        clear hold hset hl hsl hnew hx2 hx7 hx15 hx16 hNX hb2 hb15
        generalize nextS (schedL b i) i = nv at *
        generalize smallS x15 7 18 3 = m15 at *
        generalize smallS x2 17 19 10 = m2 at *
        obtain ⟨y1, hy1⟩ : ∃ y, (x16 + m15) % 18446744073709551616 = y := ⟨_, rfl⟩
        obtain ⟨y2, hy2⟩ : ∃ y, (y1 + x7) % 18446744073709551616 = y := ⟨_, rfl⟩
        obtain ⟨y3, hy3⟩ : ∃ y, (y2 + m2) % 18446744073709551616 = y := ⟨_, rfl⟩
        rw [hy1, hy2, hy3] at hnm
        have hy3l : y3 < 18446744073709551616 := by rw [← hy3]; exact Nat.mod_lt _ (by omega)
        have HKP := Lib.hid fun W => keep_any y3 W hy3l
        rw [hnm] at HKP
        clear hnm hy3l
        go_upto_region 11 with fail
        have hS : SclS w h l i wr.drew := ⟨hblk.drew, 0, by rw [hnew0]; exact hrow.drew⟩
        refine wp_region_held (S := fun W => SclS w h l i W) (by kernel_rfl) ?_
        change wpAnyH _ _ _ _ _ _ _ _ wr.drew
        refine takeH 0 rfl rfl (some 53) rfl (.int .i64 (i : Int)) (by kernel_rfl) (by kernel_rfl) (by kernel_rfl) (fun _ _ _ h => h) (fun _ _ => rfl) hS ?_
        simp only [Act.put, List.setIfInBounds_toArray, List.set_cons_zero, List.set_cons_succ]
        refine takeH 1 rfl rfl (some 54) rfl (.agg #[.int .i64 32, .int .i64 64, .int .u64 2, .int .u64 13, .int .u64 22, .int .u64 6, .int .u64 11, .int .u64 25, .int .u64 7, .int .u64 18, .int .u64 3, .int .u64 17, .int .u64 19, .int .u64 10]) (by kernel_rfl) (by kernel_rfl) (by kernel_rfl) (fun _ _ _ h => h) (fun w1 h1 => runFormR _ rfl rfl h1.form) hS ?_
        simp only [Act.put, List.setIfInBounds_toArray, List.set_cons_zero, List.set_cons_succ]
        refine takeH 2 rfl rfl (some 55) rfl (.int .i64 (i : Int)) (by kernel_rfl) (by kernel_rfl) (by kernel_rfl) (fun _ _ _ h => h) (fun _ _ => rfl) hS ?_
        simp only [Act.put, List.setIfInBounds_toArray, List.set_cons_zero, List.set_cons_succ]
        refine takeH 3 rfl rfl (some 56) rfl (.int .i64 ((i - 16 : Nat) : Int)) (by kernel_rfl) (by kernel_rfl) (by kernel_rfl) (fun _ _ _ h => h) (fun w1 _ => runSubI _ _ _ rfl i 16 rfl rfl (by omega) (by omega)) hS ?_
        simp only [Act.put, List.setIfInBounds_toArray, List.set_cons_zero, List.set_cons_succ]
        refine takeH 4 rfl rfl (some 57) rfl (.pointer (some ⟨w.heap.size + 3, i - 16, none⟩)) (by kernel_rfl) (by kernel_rfl) (by kernel_rfl) (fun _ _ _ h => h) (fun w1 _ => runAt _ _ _ rfl _ _ _ rfl rfl (atRounds w1 _ (i - 16) (by omega))) hS ?_
        simp only [Act.put, List.setIfInBounds_toArray, List.set_cons_zero, List.set_cons_succ]
        refine takeH 5 rfl rfl (some 58) rfl (.int .u64 ((x16 : Nat) : Int)) (by kernel_rfl) (by kernel_rfl) (by kernel_rfl) (fun _ _ _ h => h) (fun w1 h1 => runLoad _ _ rfl _ _ rfl (ldWord w1 _ _ (h1.cellv (i - 16) x16 (by omega) (by omega) HX16.out))) hS ?_
        simp only [Act.put, List.setIfInBounds_toArray, List.set_cons_zero, List.set_cons_succ]
        refine takeH 6 rfl rfl (some 59) rfl (.agg #[.int .i64 32, .int .i64 64, .int .u64 2, .int .u64 13, .int .u64 22, .int .u64 6, .int .u64 11, .int .u64 25, .int .u64 7, .int .u64 18, .int .u64 3, .int .u64 17, .int .u64 19, .int .u64 10]) (by kernel_rfl) (by kernel_rfl) (by kernel_rfl) (fun _ _ _ h => h) (fun w1 h1 => runFormR _ rfl rfl h1.form) hS ?_
        simp only [Act.put, List.setIfInBounds_toArray, List.set_cons_zero, List.set_cons_succ]
        refine takeH 7 rfl rfl (some 60) rfl (.int .i64 (i : Int)) (by kernel_rfl) (by kernel_rfl) (by kernel_rfl) (fun _ _ _ h => h) (fun _ _ => rfl) hS ?_
        simp only [Act.put, List.setIfInBounds_toArray, List.set_cons_zero, List.set_cons_succ]
        refine takeH 8 rfl rfl (some 61) rfl (.int .i64 ((i - 15 : Nat) : Int)) (by kernel_rfl) (by kernel_rfl) (by kernel_rfl) (fun _ _ _ h => h) (fun w1 _ => runSubI _ _ _ rfl i 15 rfl rfl (by omega) (by omega)) hS ?_
        simp only [Act.put, List.setIfInBounds_toArray, List.set_cons_zero, List.set_cons_succ]
        refine takeH 9 rfl rfl (some 62) rfl (.pointer (some ⟨w.heap.size + 3, i - 15, none⟩)) (by kernel_rfl) (by kernel_rfl) (by kernel_rfl) (fun _ _ _ h => h) (fun w1 _ => runAt _ _ _ rfl _ _ _ rfl rfl (atRounds w1 _ (i - 15) (by omega))) hS ?_
        simp only [Act.put, List.setIfInBounds_toArray, List.set_cons_zero, List.set_cons_succ]
        refine takeH 10 rfl rfl (some 63) rfl (.int .u64 ((x15 : Nat) : Int)) (by kernel_rfl) (by kernel_rfl) (by kernel_rfl) (fun _ _ _ h => h) (fun w1 h1 => runLoad _ _ rfl _ _ rfl (ldWord w1 _ _ (h1.cellv (i - 15) x15 (by omega) (by omega) HX15.out))) hS ?_
        simp only [Act.put, List.setIfInBounds_toArray, List.set_cons_zero, List.set_cons_succ]
        refine takeH 13 rfl rfl (some 66) rfl (.int .i64 (i : Int)) (by kernel_rfl) (by kernel_rfl) (by kernel_rfl) (fun _ _ _ h => h) (fun _ _ => rfl) hS ?_
        simp only [Act.put, List.setIfInBounds_toArray, List.set_cons_zero, List.set_cons_succ]
        refine takeH 14 rfl rfl (some 67) rfl (.int .i64 ((i - 7 : Nat) : Int)) (by kernel_rfl) (by kernel_rfl) (by kernel_rfl) (fun _ _ _ h => h) (fun w1 _ => runSubI _ _ _ rfl i 7 rfl rfl (by omega) (by omega)) hS ?_
        simp only [Act.put, List.setIfInBounds_toArray, List.set_cons_zero, List.set_cons_succ]
        refine takeH 15 rfl rfl (some 68) rfl (.pointer (some ⟨w.heap.size + 3, i - 7, none⟩)) (by kernel_rfl) (by kernel_rfl) (by kernel_rfl) (fun _ _ _ h => h) (fun w1 _ => runAt _ _ _ rfl _ _ _ rfl rfl (atRounds w1 _ (i - 7) (by omega))) hS ?_
        simp only [Act.put, List.setIfInBounds_toArray, List.set_cons_zero, List.set_cons_succ]
        refine takeH 16 rfl rfl (some 69) rfl (.int .u64 ((x7 : Nat) : Int)) (by kernel_rfl) (by kernel_rfl) (by kernel_rfl) (fun _ _ _ h => h) (fun w1 h1 => runLoad _ _ rfl _ _ rfl (ldWord w1 _ _ (h1.cellv (i - 7) x7 (by omega) (by omega) HX7.out))) hS ?_
        simp only [Act.put, List.setIfInBounds_toArray, List.set_cons_zero, List.set_cons_succ]
        refine takeH 18 rfl rfl (some 71) rfl (.agg #[.int .i64 32, .int .i64 64, .int .u64 2, .int .u64 13, .int .u64 22, .int .u64 6, .int .u64 11, .int .u64 25, .int .u64 7, .int .u64 18, .int .u64 3, .int .u64 17, .int .u64 19, .int .u64 10]) (by kernel_rfl) (by kernel_rfl) (by kernel_rfl) (fun _ _ _ h => h) (fun w1 h1 => runFormR _ rfl rfl h1.form) hS ?_
        simp only [Act.put, List.setIfInBounds_toArray, List.set_cons_zero, List.set_cons_succ]
        refine takeH 19 rfl rfl (some 72) rfl (.int .i64 (i : Int)) (by kernel_rfl) (by kernel_rfl) (by kernel_rfl) (fun _ _ _ h => h) (fun _ _ => rfl) hS ?_
        simp only [Act.put, List.setIfInBounds_toArray, List.set_cons_zero, List.set_cons_succ]
        refine takeH 20 rfl rfl (some 73) rfl (.int .i64 ((i - 2 : Nat) : Int)) (by kernel_rfl) (by kernel_rfl) (by kernel_rfl) (fun _ _ _ h => h) (fun w1 _ => runSubI _ _ _ rfl i 2 rfl rfl (by omega) (by omega)) hS ?_
        simp only [Act.put, List.setIfInBounds_toArray, List.set_cons_zero, List.set_cons_succ]
        refine takeH 21 rfl rfl (some 74) rfl (.pointer (some ⟨w.heap.size + 3, i - 2, none⟩)) (by kernel_rfl) (by kernel_rfl) (by kernel_rfl) (fun _ _ _ h => h) (fun w1 _ => runAt _ _ _ rfl _ _ _ rfl rfl (atRounds w1 _ (i - 2) (by omega))) hS ?_
        simp only [Act.put, List.setIfInBounds_toArray, List.set_cons_zero, List.set_cons_succ]
        refine takeH 22 rfl rfl (some 75) rfl (.int .u64 ((x2 : Nat) : Int)) (by kernel_rfl) (by kernel_rfl) (by kernel_rfl) (fun _ _ _ h => h) (fun w1 h1 => runLoad _ _ rfl _ _ rfl (ldWord w1 _ _ (h1.cellv (i - 2) x2 (by omega) (by omega) HX2.out))) hS ?_
        simp only [Act.put, List.setIfInBounds_toArray, List.set_cons_zero, List.set_cons_succ]
        refine oneH 11 rfl rfl (by kernel_rfl) fun K hK => ?_
        refine wpH_call (some 64) rfl 36 #[.agg #[.int .i64 32, .int .i64 64, .int .u64 2, .int .u64 13, .int .u64 22, .int .u64 6, .int .u64 11, .int .u64 25, .int .u64 7, .int .u64 18, .int .u64 3, .int .u64 17, .int .u64 19, .int .u64 10], .int .u64 ((x15 : Nat) : Int), .int .i64 6, .bool true] (by kernel_rfl) _ _ (HS0.out _) fun Wc1 hWc1 => ?_
        simp only [Act.put, List.setIfInBounds_toArray, List.set_cons_zero, List.set_cons_succ]
        have hSc1 := SclS.keep wr.drew Wc1 hS hWc1
        refine hK _ _ hSc1 fun _ => ?_
        clear hK K
        refine takeH 12 rfl rfl (some 65) rfl (.int .u64 ((y1 : Nat) : Int)) (by kernel_rfl) (by kernel_rfl) (by kernel_rfl) (fun _ _ _ h => h) (fun w1 _ => runAdd64 _ _ _ rfl rfl rfl hy1) hSc1 ?_
        simp only [Act.put, List.setIfInBounds_toArray, List.set_cons_zero, List.set_cons_succ]
        refine takeH 17 rfl rfl (some 70) rfl (.int .u64 ((y2 : Nat) : Int)) (by kernel_rfl) (by kernel_rfl) (by kernel_rfl) (fun _ _ _ h => h) (fun w1 _ => runAdd64 _ _ _ rfl rfl rfl hy2) hSc1 ?_
        simp only [Act.put, List.setIfInBounds_toArray, List.set_cons_zero, List.set_cons_succ]
        refine oneH 23 rfl rfl (by kernel_rfl) fun K hK => ?_
        refine wpH_call (some 76) rfl 36 #[.agg #[.int .i64 32, .int .i64 64, .int .u64 2, .int .u64 13, .int .u64 22, .int .u64 6, .int .u64 11, .int .u64 25, .int .u64 7, .int .u64 18, .int .u64 3, .int .u64 17, .int .u64 19, .int .u64 10], .int .u64 ((x2 : Nat) : Int), .int .i64 9, .bool true] (by kernel_rfl) _ _ (HS1.out _) fun Wc2 hWc2 => ?_
        simp only [Act.put, List.setIfInBounds_toArray, List.set_cons_zero, List.set_cons_succ]
        have hSc2 := SclS.keep Wc1 Wc2 hSc1 hWc2
        refine hK _ _ hSc2 fun _ => ?_
        clear hK K
        refine takeH 24 rfl rfl (some 77) rfl (.int .u64 ((y3 : Nat) : Int)) (by kernel_rfl) (by kernel_rfl) (by kernel_rfl) (fun _ _ _ h => h) (fun w1 _ => runAdd64 _ _ _ rfl rfl rfl hy3) hSc2 ?_
        simp only [Act.put, List.setIfInBounds_toArray, List.set_cons_zero, List.set_cons_succ]
        refine oneH 25 rfl rfl (by kernel_rfl) fun K hK => ?_
        refine wpH_call (some 78) rfl 35 #[.agg #[.int .i64 32, .int .i64 64, .int .u64 2, .int .u64 13, .int .u64 22, .int .u64 6, .int .u64 11, .int .u64 25, .int .u64 7, .int .u64 18, .int .u64 3, .int .u64 17, .int .u64 19, .int .u64 10], .int .u64 ((y3 : Nat) : Int)] (by kernel_rfl) _ _ (HKP.out _) fun Wc3 hWc3 => ?_
        simp only [Act.put, List.setIfInBounds_toArray, List.set_cons_zero, List.set_cons_succ]
        have hSc3 := SclS.keep Wc2 Wc3 hSc2 hWc3
        refine hK _ _ hSc3 fun _ => ?_
        clear hK K
        refine takeH 26 rfl rfl (some 79) rfl (.pointer (some ⟨w.heap.size + 3, i, none⟩)) (by kernel_rfl) (by kernel_rfl) (by kernel_rfl) (fun _ _ _ h => h) (fun w1 _ => runAt _ _ _ rfl _ _ _ rfl rfl (atRounds w1 _ i (by omega))) hSc3 ?_
        simp only [Act.put, List.setIfInBounds_toArray, List.set_cons_zero, List.set_cons_succ]
        have hrow1 := ((hrow.drew.below hWc1).below hWc2).below hWc3
        have hcl := hrow1.cell i (by omega)
        have hfz := hrow1.frozen i
        have hS2 : SclS w h l i (Wc3.setCell ⟨w.heap.size + 3, i, none⟩ (.int .u64 ((nv : Nat) : Int))) := ⟨hSc3.blk.set _ i _ (Nat.le_refl _), nv, hrow1.set i nv⟩
        refine oneH 27 rfl rfl (by kernel_rfl) fun K hK => ?_
        refine wpH_skip (w' := Wc3.setCell ⟨w.heap.size + 3, i, none⟩ (.int .u64 ((nv : Nat) : Int))) rfl (runStore _ _ _ rfl _ _ rfl rfl (st64 Wc3 _ i _ _ hcl hfz)) ?_
        refine hK _ _ hS2 fun _ => ?_
        clear hK K
        refine wpAnyH_done (by kernel_rfl) ?_ _
        have HB2 := Lib.hid hS2.blk
        have HR2 := Lib.hid (hrow1.set i nv)
        clear hS2 hcl hfz hrow1 hSc3 hWc3 hSc2 hWc2 hSc1 hWc1 hS hrow hblk hy1 hy2 hy3
        generalize Wc3.setCell ⟨w.heap.size + 3, i, none⟩ (.int .u64 ((nv : Nat) : Int)) = W9 at *
        go_wp2
        go_round
        case rel => exact ⟨i + 1, l.set i nv, by omega, by go_num, by rw [HSET.out, HNEXT.out], HR2.out, HB2.out⟩
        case measure => simp [intOf]; omega
end Go.Proofs.YtpgadpnaekhiaaaDoor.Sha32
