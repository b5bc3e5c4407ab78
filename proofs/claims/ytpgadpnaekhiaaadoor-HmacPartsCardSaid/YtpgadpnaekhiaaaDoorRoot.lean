/-
  The walk of times, the product of two long numbers: what it answers is the product.
  Conditions: at most 1000 words each.
-/
import Derived.Test.YtpgadpnaekhiaaaDoorExt
import Derived.Shelf.Bits.Mul64
import Derived.Deep.OwnRows
import Derived.Deep.LoopGhost
namespace Go.Proofs.YtpgadpnaekhiaaaDoor.Root
open Go.ChangeShapes Go.WideShapes Go.ChangeAt Go.RowKit Go.Shelf Go.Deep
def ren264 : Go.Shelf.Ren := ⟨fun | 264 => 56 | n => n, fun | 53 => 45 | 46 => 86 | n => n, fun | n => n⟩
theorem lays264 : Go.Proofs.Lays.n264 Tryd.prog ren264 := {
  mixed := by kernel_rfl
  f264 := Tryd.func56.trans (congrArg some (by kernel_rfl))
  t46 := Tryd.underlying86
  a46 := Tryd.isAgg86
  z46 := Tryd.sizeOf86
  v46 := Tryd.zeroValue86
  t53 := Tryd.underlying45
  a53 := Tryd.isAgg45
  z53 := Tryd.sizeOf45
  v53 := Tryd.zeroValue45 }
theorem Mul64_0 (x y : Nat) (hx : x < 18446744073709551616) (hy : y < 18446744073709551616) (w : World) :
    Calls Tryd.prog 56 #[.int .u64 x, .int .u64 y] w fun e w' => e = .returned (.tuple #[.int .u64 ((x * y / 18446744073709551616 : Nat) : Int), .int .u64 ((x * y % 18446744073709551616 : Nat) : Int)]) ∧ w' = w := Any.bits_Mul64 lays264 x y hx hy w
/-- 2 to the 64. -/
def W : Nat := 18446744073709551616
theorem W_pos : 0 < W := by decide
/-- Of a product: its upper word, its lower one. -/
def mulHi (x y : Nat) : Nat := x * y / W
def mulLo (x y : Nat) : Nat := x * y % W
theorem Mul64_any (x y : Nat) (hx : x < W) (hy : y < W) (w : World) :
    Calls Tryd.prog 56 #[.int .u64 x, .int .u64 y] w fun e w' => e = .returned (.tuple #[.int .u64 (mulHi x y), .int .u64 (mulLo x y)]) ∧ w = w' :=
  (Mul64_0 x y hx hy w).mono fun _ _ ⟨he, hw⟩ => ⟨he, hw.symm⟩
/-- A long number's value. -/
def val (g : Nat → Nat) : Nat → Nat
  | 0 => 0
  | n + 1 => val g n + g n * W ^ n
theorem val_succ (g : Nat → Nat) (n : Nat) : val g (n + 1) = val g n + g n * W ^ n := rfl
def upd (g : Nat → Nat) (i v : Nat) : Nat → Nat := fun j => if j = i then v else g j
theorem val_congr {g h : Nat → Nat} : ∀ {n : Nat}, (∀ i, i < n → g i = h i) → val g n = val h n
  | 0, _ => rfl
  | n + 1, e => by
    unfold val
    rw [val_congr fun i hi => e i (by omega), e n (by omega)]
theorem val_zero : ∀ n, val (fun _ => 0) n = 0
  | 0 => rfl
  | n + 1 => by rw [val_succ, val_zero n]; simp
theorem val_upd (g : Nat → Nat) (i v : Nat) : ∀ n, i < n → val (upd g i v) n + g i * W ^ i = val g n + v * W ^ i
  | 0, h => by omega
  | n + 1, h => by
    unfold val
    by_cases hi : i = n
    · subst hi
      have e : val (upd g i v) i = val g i := val_congr fun j hj => by unfold upd; rw [if_neg (by omega)]
      rw [e, show upd g i v i = v by unfold upd; rw [if_pos rfl]]
      omega
    · have := val_upd g i v n (by omega)
      rw [show upd g i v n = g n by unfold upd; rw [if_neg (by omega)]]
      omega
/-- What the rounds over the first number leave. -/
def OutInv (a b : Nat → Nat) (la lb i : Nat) (c : Nat → Nat) : Prop :=
  (∀ j, c j < W) ∧ (∀ j, i + lb ≤ j → c j = 0) ∧ val c (la + lb) = val a i * val b lb
/-- What the rounds over the second one leave. -/
def InInv (a b : Nat → Nat) (la lb i k cy : Nat) (c : Nat → Nat) : Prop :=
  (∀ j, c j < W) ∧ cy < W ∧ (∀ j, i + lb ≤ j → c j = 0) ∧ val c (la + lb) + cy * W ^ (i + k) = val a i * val b lb + a i * W ^ i * val b k
theorem in_start {a b : Nat → Nat} {la lb i : Nat} {c : Nat → Nat} (h : OutInv a b la lb i c) : InInv a b la lb i 0 0 c :=
  ⟨h.1, W_pos, h.2.1, by rw [h.2.2]; simp [val]⟩
theorem in_step {a b : Nat → Nat} {la lb i k cy : Nat} {c : Nat → Nat} (ha : a i < W) (hb : b k < W) (hi : i < la) (hk : k < lb) (h : InInv a b la lb i k cy c) :
    InInv a b la lb i (k + 1) ((a i * b k + cy + c (i + k)) / W) (upd c (i + k) ((a i * b k + cy + c (i + k)) % W)) := by
  obtain ⟨h1, h2, h3, h4⟩ := h
  have hc := h1 (i + k)
  have hm : a i * b k ≤ (W - 1) * (W - 1) := Nat.mul_le_mul (by omega) (by omega)
  have hW : (W - 1) * (W - 1) + (W - 1) + (W - 1) < W * W := by decide
  refine ⟨fun j => ?_, ?_, fun j hj => ?_, ?_⟩
  · unfold upd
    split
    · exact Nat.mod_lt _ W_pos
    · exact h1 j
  · exact (Nat.div_lt_iff_lt_mul W_pos).2 (by omega)
  · unfold upd
    rw [if_neg (by omega)]
    exact h3 j hj
  · have hv := val_upd c (i + k) ((a i * b k + cy + c (i + k)) % W) (la + lb) (by omega)
    generalize ht : a i * b k + cy + c (i + k) = t at *
    have hd : W * (t / W) + t % W = t := Nat.div_add_mod t W
    rw [show i + (k + 1) = (i + k) + 1 by omega, Nat.pow_succ, val_succ]
    generalize hX : W ^ (i + k) = X at *
    have e1 : t / W * (X * W) + t % W * X = t * X := by
      conv => rhs; rw [← hd]
      rw [Nat.add_mul]
      congr 1
      rw [Nat.mul_comm X W, ← Nat.mul_assoc, Nat.mul_comm W (t / W)]
    have e2 : t * X = a i * b k * X + cy * X + c (i + k) * X := by rw [← ht, Nat.add_mul, Nat.add_mul]
    have e3 : a i * W ^ i * (val b k + b k * W ^ k) = a i * W ^ i * val b k + a i * b k * X := by
      rw [Nat.mul_add]
      congr 1
      rw [← hX, Nat.pow_add]
      simp only [Nat.mul_assoc, Nat.mul_left_comm]
    rw [e3]
    omega
theorem in_end {a b : Nat → Nat} {la lb i cy : Nat} {c : Nat → Nat} (hi : i < la) (h : InInv a b la lb i lb cy c) : OutInv a b la lb (i + 1) (upd c (i + lb) (c (i + lb) + cy)) := by
  obtain ⟨h1, h2, h3, h4⟩ := h
  have h0 := h3 (i + lb) (Nat.le_refl _)
  rw [h0, Nat.zero_add]
  refine ⟨fun j => ?_, fun j hj => ?_, ?_⟩
  · unfold upd
    split
    · exact h2
    · exact h1 j
  · unfold upd
    rw [if_neg (by omega)]
    exact h3 j (by omega)
  · have hv := val_upd c (i + lb) cy (la + lb) (by omega)
    rw [h0, Nat.zero_mul, Nat.add_zero] at hv
    rw [hv, h4, val_succ, Nat.add_mul]
/-- What the words of one step are. -/
theorem step_words (x y cy o : Nat) (hx : x < W) (hy : y < W) (hcy : cy < W) (ho : o < W) :
    mulHi x y + (mulLo x y + cy) / W < W ∧ (mulLo x y + cy) / W ≤ 1 ∧ (o + (mulLo x y + cy) % W) / W ≤ 1 ∧ mulHi x y + (mulLo x y + cy) / W + (o + (mulLo x y + cy) % W) / W = (x * y + cy + o) / W ∧ (x * y + cy + o) / W < W ∧ (o + (mulLo x y + cy) % W) % W = (x * y + cy + o) % W := by
  have hm : x * y ≤ (W - 1) * (W - 1) := Nat.mul_le_mul (by omega) (by omega)
  have hW : (W - 1) * (W - 1) + (W - 1) + (W - 1) < W * W := by decide
  unfold mulHi mulLo
  generalize x * y = p at *
  have e1 := Nat.div_add_mod p W
  have hl := Nat.mod_lt p W_pos
  generalize p / W = ph at *
  generalize p % W = pl at *
  have e2 := Nat.div_add_mod (pl + cy) W
  have hl2 := Nat.mod_lt (pl + cy) W_pos
  have c1 : (pl + cy) / W ≤ 1 := by
    have : (pl + cy) / W < 2 := (Nat.div_lt_iff_lt_mul W_pos).2 (by omega)
    omega
  generalize (pl + cy) / W = k1 at *
  generalize (pl + cy) % W = s1 at *
  have e3 := Nat.div_add_mod (o + s1) W
  have hl3 := Nat.mod_lt (o + s1) W_pos
  have c2 : (o + s1) / W ≤ 1 := by
    have : (o + s1) / W < 2 := (Nat.div_lt_iff_lt_mul W_pos).2 (by omega)
    omega
  generalize (o + s1) / W = k2 at *
  generalize (o + s1) % W = s2 at *
  have e4 : p + cy + o = W * (ph + k1 + k2) + s2 := by
    rw [Nat.mul_add, Nat.mul_add]
    omega
  have d1 : (p + cy + o) / W = ph + k1 + k2 := by
    rw [e4, Nat.mul_add_div W_pos, Nat.div_eq_of_lt hl3, Nat.add_zero]
  have d2 : (p + cy + o) % W = s2 := by
    rw [e4, Nat.mul_add_mod, Nat.mod_eq_of_lt hl3]
  have d3 : (p + cy + o) / W < W := (Nat.div_lt_iff_lt_mul W_pos).2 (by omega)
  rw [d2]
  refine ⟨?_, c1, c2, d1.symm, d3, rfl⟩
  rw [d1] at d3
  omega
theorem infoU64 : (Tryd.prog.info? 45).map (fun i => (i.zero, i.size, i.bytes)) = some (some (.int .u64 0), 1, 8) := by kernel_rfl
/-- Of a sum: its lower word, its carry. -/
def sumLo (x y : Nat) : Nat := (x + y) % W
def sumHi (x y : Nat) : Nat := (x + y) / W
theorem Add64_run (x y : Nat) (w : World) : (callFunc 57 #[.int .u64 x, .int .u64 y, .int .u64 0]).run Tryd.prog w = .ok (.value (.tuple #[.int .u64 (sumLo x y), .int .u64 (sumHi x y)])) w := by
  rw [run_callFunc_extern Tryd.func57 (by kernel_rfl) (by kernel_rfl) (by kernel_rfl) (e := add64Entry) (by kernel_rfl), run_add64 x y 0 (by omega) (by omega) (by omega) (by omega)]
  simp only [Result.andThen, sumLo, sumHi, W, Int.add_zero]
  rfl
theorem u64_wrap (n : Nat) (h : n < W) : IntKind.u64.wrap (n : Int) = n := IntWalk.u64_in _ (by unfold W at h; omega)
/-- The words of one step, as the walk spells them. -/
theorem step_walk (x y cy o : Nat) (hx : x < W) (hy : y < W) (hcy : cy < W) (ho : o < W) :
    IntKind.u64.wrap (((mulHi x y : Nat) : Int) + ((sumHi (mulLo x y) cy : Nat) : Int)) = ((mulHi x y + sumHi (mulLo x y) cy : Nat) : Int) ∧
    IntKind.u64.wrap (((mulHi x y + sumHi (mulLo x y) cy : Nat) : Int) + ((sumHi o (sumLo (mulLo x y) cy) : Nat) : Int)) = (((x * y + cy + o) / W : Nat) : Int) ∧
    sumLo o (sumLo (mulLo x y) cy) = (x * y + cy + o) % W := by
  obtain ⟨s1, s2, s3, s4, s5, s6⟩ := step_words x y cy o hx hy hcy ho
  unfold sumHi sumLo
  refine ⟨?_, ?_, s6⟩
  · rw [← Int.natCast_add]; exact u64_wrap _ s1
  · rw [← Int.natCast_add, s4]; exact u64_wrap _ s5
/-- What 'times' answers. -/
def TimesPost (a b : Nat → Nat) (la lb : Nat) (w : World) (e : Ending) (w' : World) : Prop :=
  ∃ c : Nat → Nat, e = .returned (.slice (some ⟨w.heap.size, 0, none⟩) (la + lb) (la + lb)) ∧ w'.rowIs w.heap.size 45 (la + lb) (fun j => .int .u64 (c j)) ∧ (∀ j, c j < W) ∧ val c (la + lb) = val a la * val b lb ∧ Below w.heap.size w w'
set_option maxRecDepth 100000 in
theorem times_any (a b : Nat → Nat) (la lb ba bb ca cb : Nat) (w : World) (hA : w.rowIs ba 45 la (fun j => .int .u64 (a j))) (hB : w.rowIs bb 45 lb (fun j => .int .u64 (b j))) (hla : la ≤ 1000) (hlb : lb ≤ 1000) (hWa : ∀ j, a j < W) (hWb : ∀ j, b j < W) :
    Calls Tryd.prog 40 #[.slice (some ⟨ba, 0, none⟩) la ca, .slice (some ⟨bb, 0, none⟩) lb cb] w (TimesPost a b la lb w) := by
  have hmk := fun W => run_make_row' (P := Tryd.prog) 70 45 (.int .u64 0) 8 Tryd.underlying70 infoU64 rfl .i64 .i64 (la + lb) (by omega) (by omega) W
  simp only [Int.natCast_add] at hmk
  have hAlt := hA.lt
  have hBlt := hB.lt
  have HA := Lib.hid hA
  have HB := Lib.hid hB
  have HWa := Lib.hid hWa
  have HWb := Lib.hid hWb
  clear hA hB hWa hWb
  go_enter Tryd.func40, Tryd.ntmps40
  go_wp2
  clear hmk
  go_loopw [22] (fun s wr => ∃ (i : Nat) (c : Nat → Nat), i ≤ la ∧ s = .int .i64 i ∧ wr.rowIs w.heap.size 45 (la + lb) (fun j => .int .u64 (c j)) ∧ Below w.heap.size w wr ∧ OutInv a b la lb i c) (fun s _ => la - (intOf s).toNat)
  case atStart => exact ⟨0, fun _ => 0, Nat.zero_le _, rfl, World.rowIs_made _ _ _ _, (Below.refl _ _).alloc (Nat.le_refl _) _, fun _ => W_pos, fun _ _ => rfl, by rw [val_zero]; simp [val]⟩
  case round =>
    obtain ⟨i, c, hi, rfl, hrow, hbel, hinv⟩ := hrel
    have HR := Lib.hid hrow
    have HI := Lib.hid hinv
    clear hrow hinv
    by_cases hlt : i < la
    · have hcell := (HA.out.of_block (hbel.block ba hAlt)).cell hlt
      go_wp2
      obtain ⟨wo, rfl⟩ : ∃ wo : World, wo = wr := ⟨_, rfl⟩
      have hx := HWa.out i
      go_loopw [8, 29] (fun s8 s29 wr => ∃ (k cy : Nat) (c : Nat → Nat), k ≤ lb ∧ s8 = .int .u64 cy ∧ s29 = .int .i64 k ∧ wr.rowIs w.heap.size 45 (la + lb) (fun j => .int .u64 (c j)) ∧ Below w.heap.size w wr ∧ InInv a b la lb i k cy c) (fun _ s _ => lb - (intOf s).toNat)
      case atStart => exact ⟨0, 0, c, Nat.zero_le _, rfl, rfl, HR.out, hbel, in_start HI.out⟩
      case round =>
        obtain ⟨k, cy, c, hk, rfl, rfl, hrow, hbel2, hinv⟩ := hrel
        by_cases hkl : k < lb
        · have hy := HWb.out k
          have hcy := hinv.2.1
          have ho := hinv.1 (i + k)
          have hcb := (HB.out.of_block (hbel2.block bb hBlt)).cell hkl
          have hco := hrow.cell (i := i + k) (by omega)
          have hcf := hrow.frozen (i + k)
          have HR2 := Lib.hid hrow
          have HI2 := Lib.hid hinv
          clear hrow hinv
          go_wp2_with fail
          refine (Mul64_any _ _ hx hy _).mono ?_; rintro e w' ⟨rfl, rfl⟩
          obtain ⟨s1, s2, s3⟩ := step_walk (a i) (b k) cy (c (i + k)) hx hy hcy ho
          have hin := in_step hx hy hlt hkl HI2.out
          rw [← s3] at hin
          have hrow2 := HR2.out.set (i + k) (.int .u64 ((sumLo (c (i + k)) (sumLo (mulLo (a i) (b k)) cy) : Nat) : Int))
          have hAdd := Add64_run
          clear s3 hx hy hcy ho
          generalize (a i * b k + cy + c (i + k)) / W = cy' at *
          generalize mulHi (a i) (b k) = hi64 at *
          generalize mulLo (a i) (b k) = lo64 at *
          generalize hi64 + sumHi lo64 cy = hi2 at *
          have HIN := Lib.hid hin
          have HR3 := Lib.hid hrow2
          clear hin hrow2
          go_wp2
          go_roundw
          case rel =>
            exact ⟨k + 1, cy', upd c (i + k) (sumLo (c (i + k)) (sumLo lo64 cy)), by omega, rfl, by go_num, HR3.out.congr (fun j _ => by unfold upd; split <;> rfl), hbel2.setCell (Nat.le_refl _) _, HIN.out⟩
          case measure => simp [intOf]; omega
        · obtain rfl : k = lb := by omega
          have hco := hrow.cell (i := i + k) (by omega)
          have hcf := hrow.frozen (i + k)
          have hz : c (i + k) = 0 := hinv.2.2.1 _ (Nat.le_refl _)
          have hcy := hinv.2.1
          have hw : IntKind.u64.wrap (((c (i + k) : Nat) : Int) + (cy : Int)) = ((c (i + k) + cy : Nat) : Int) := by
            rw [← Int.natCast_add]; exact u64_wrap _ (by omega)
          have hend := in_end hlt hinv
          have hrow2 := hrow.set (i + k) (.int .u64 ((c (i + k) + cy : Nat) : Int))
          clear hz hcy hinv hrow
          generalize c (i + k) + cy = s at *
          have HE := Lib.hid hend
          have HR2 := Lib.hid hrow2
          clear hend hrow2
          go_wp2
          go_roundw
          case rel =>
            exact ⟨i + 1, upd c (i + k) s, by omega, by go_num, HR2.out.congr (fun j _ => by unfold upd; split <;> rfl), hbel2.setCell (Nat.le_refl _) _, HE.out⟩
          case measure => simp [intOf]; omega
    · obtain rfl : i = la := by omega
      go_wp2
      go_ret
      exact ⟨c, rfl, HR.out, HI.out.1, HI.out.2.2, hbel⟩
end Go.Proofs.YtpgadpnaekhiaaaDoor.Root
