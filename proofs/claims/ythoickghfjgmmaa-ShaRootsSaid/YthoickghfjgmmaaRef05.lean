/-
  The reference for roots: product and atMost of long numbers, walked: each answers what it stands for.
  Conditions: at most 1000 digits.
-/
import Derived.Test.YthoickghfjgmmaaRoot3
namespace Go.Proofs.Ythoickghfjgmmaa.Ref05
open Go.ChangeShapes Go.WideShapes Go.ChangeAt Go.RowKit Go.Shelf Go.Deep
/-- 2 to the 32. -/
def V : Nat := 4294967296
theorem V_pos : 0 < V := by decide
/-- A long number's value. -/
def val (g : Nat → Nat) : Nat → Nat
  | 0 => 0
  | n + 1 => val g n + g n * V ^ n
theorem val_succ (g : Nat → Nat) (n : Nat) : val g (n + 1) = val g n + g n * V ^ n := rfl
def upd (g : Nat → Nat) (i v : Nat) : Nat → Nat := fun j => if j = i then v else g j
theorem val_congr {g h : Nat → Nat} : ∀ {n : Nat}, (∀ i, i < n → g i = h i) → val g n = val h n
  | 0, _ => rfl
  | n + 1, e => by
    unfold val
    rw [val_congr fun i hi => e i (by omega), e n (by omega)]
theorem val_zero : ∀ n, val (fun _ => 0) n = 0
  | 0 => rfl
  | n + 1 => by rw [val_succ, val_zero n]; simp
theorem val_upd (g : Nat → Nat) (i v : Nat) : ∀ n, i < n → val (upd g i v) n + g i * V ^ i = val g n + v * V ^ i
  | 0, h => by omega
  | n + 1, h => by
    unfold val
    by_cases hi : i = n
    · subst hi
      have e : val (upd g i v) i = val g i := val_congr fun j hj => by unfold upd; rw [if_neg (by omega)]
      rw [e, show upd g i v i = v by unfold upd; rw [if_pos rfl]]
      omega
    · have := val_upd g i v n (by omega)
      rw [show upd g i v n = g n by unfold upd; rw [if_neg (by omega)]]
      omega
/-- What the rounds over the first number leave. -/
def OutInv (a b : Nat → Nat) (la lb i : Nat) (c : Nat → Nat) : Prop :=
  (∀ j, c j < V) ∧ (∀ j, i + lb ≤ j → c j = 0) ∧ val c (la + lb) = val a i * val b lb
/-- What the rounds over the second one leave. -/
def InInv (a b : Nat → Nat) (la lb i k cy : Nat) (c : Nat → Nat) : Prop :=
  (∀ j, c j < V) ∧ cy < V ∧ (∀ j, i + lb ≤ j → c j = 0) ∧ val c (la + lb) + cy * V ^ (i + k) = val a i * val b lb + a i * V ^ i * val b k
theorem in_start {a b : Nat → Nat} {la lb i : Nat} {c : Nat → Nat} (h : OutInv a b la lb i c) : InInv a b la lb i 0 0 c :=
  ⟨h.1, V_pos, h.2.1, by rw [h.2.2]; simp [val]⟩
theorem in_step {a b : Nat → Nat} {la lb i k cy : Nat} {c : Nat → Nat} (ha : a i < V) (hb : b k < V) (hi : i < la) (hk : k < lb) (h : InInv a b la lb i k cy c) :
    InInv a b la lb i (k + 1) ((a i * b k + cy + c (i + k)) / V) (upd c (i + k) ((a i * b k + cy + c (i + k)) % V)) := by
  obtain ⟨h1, h2, h3, h4⟩ := h
  have hc := h1 (i + k)
  have hm : a i * b k ≤ (V - 1) * (V - 1) := Nat.mul_le_mul (by omega) (by omega)
  have hW : (V - 1) * (V - 1) + (V - 1) + (V - 1) < V * V := by decide
  refine ⟨fun j => ?_, ?_, fun j hj => ?_, ?_⟩
  · unfold upd
    split
    · exact Nat.mod_lt _ V_pos
    · exact h1 j
  · exact (Nat.div_lt_iff_lt_mul V_pos).2 (by omega)
  · unfold upd
    rw [if_neg (by omega)]
    exact h3 j hj
  · have hv := val_upd c (i + k) ((a i * b k + cy + c (i + k)) % V) (la + lb) (by omega)
    generalize ht : a i * b k + cy + c (i + k) = t at *
    have hd : V * (t / V) + t % V = t := Nat.div_add_mod t V
    rw [show i + (k + 1) = (i + k) + 1 by omega, Nat.pow_succ, val_succ]
    generalize hX : V ^ (i + k) = X at *
    have e1 : t / V * (X * V) + t % V * X = t * X := by
      conv => rhs; rw [← hd]
      rw [Nat.add_mul]
      congr 1
      rw [Nat.mul_comm X V, ← Nat.mul_assoc, Nat.mul_comm V (t / V)]
    have e2 : t * X = a i * b k * X + cy * X + c (i + k) * X := by rw [← ht, Nat.add_mul, Nat.add_mul]
    have e3 : a i * V ^ i * (val b k + b k * V ^ k) = a i * V ^ i * val b k + a i * b k * X := by
      rw [Nat.mul_add]
      congr 1
      rw [← hX, Nat.pow_add]
      simp only [Nat.mul_assoc, Nat.mul_comm, Nat.mul_left_comm]
    rw [e3]
    omega
theorem in_end {a b : Nat → Nat} {la lb i cy : Nat} {c : Nat → Nat} (hi : i < la) (h : InInv a b la lb i lb cy c) : OutInv a b la lb (i + 1) (upd c (i + lb) (c (i + lb) + cy)) := by
  obtain ⟨h1, h2, h3, h4⟩ := h
  have h0 := h3 (i + lb) (Nat.le_refl _)
  rw [h0, Nat.zero_add]
  refine ⟨fun j => ?_, fun j hj => ?_, ?_⟩
  · unfold upd
    split
    · exact h2
    · exact h1 j
  · unfold upd
    rw [if_neg (by omega)]
    exact h3 j (by omega)
  · have hv := val_upd c (i + lb) cy (la + lb) (by omega)
    rw [h0, Nat.zero_mul, Nat.add_zero] at hv
    rw [hv, h4, val_succ, Nat.add_mul]
theorem val_lt (g : Nat → Nat) (h : ∀ j, g j < V) : ∀ n, val g n < V ^ n
  | 0 => by simp [val]
  | n + 1 => by
    rw [val_succ, Nat.pow_succ]
    have := val_lt g h n
    have hg := h n
    have : g n * V ^ n + V ^ n ≤ V ^ n * V := by
      rw [Nat.mul_comm (V ^ n) V, ← Nat.succ_mul]
      exact Nat.mul_le_mul_right _ hg
    omega
theorem val_mono (g : Nat → Nat) : ∀ {m n : Nat}, m ≤ n → val g m ≤ val g n
  | m, 0, h => by rw [Nat.le_zero.1 h]; exact Nat.le_refl _
  | m, n + 1, h => by
    by_cases e : m = n + 1
    · rw [e]; exact Nat.le_refl _
    · exact Nat.le_trans (val_mono g (by omega : m ≤ n)) (by rw [val_succ]; omega)
theorem val_zeros (g : Nat → Nat) (n : Nat) : ∀ {m : Nat}, n ≤ m → (∀ j, n ≤ j → j < m → g j = 0) → val g m = val g n
  | 0, h, _ => by rw [Nat.le_zero.1 h]
  | m + 1, h, hz => by
    by_cases e : n = m + 1
    · rw [e]
    · rw [val_succ, hz m (by omega) (by omega), Nat.zero_mul, Nat.add_zero]
      exact val_zeros g n (by omega) fun j h1 h2 => hz j h1 (by omega)

/-- A product of two digits; a sum. -/
def mulN (x y : Nat) : Nat := x * y
def addN (x y : Nat) : Nat := x + y
theorem step_walk (x y cy o : Nat) (hx : x < V) (hy : y < V) (hcy : cy < V) (ho : o < V) :
    IntKind.u64.wrap ((x : Int) * (y : Int)) = ((mulN x y : Nat) : Int) ∧ IntKind.u64.wrap (((mulN x y : Nat) : Int) + (o : Int)) = ((addN (mulN x y) o : Nat) : Int) ∧
    IntKind.u64.wrap (((addN (mulN x y) o : Nat) : Int) + (cy : Int)) = ((x * y + cy + o : Nat) : Int) := by
  have hm : x * y ≤ (V - 1) * (V - 1) := Nat.mul_le_mul (by omega) (by omega)
  have hV : (V - 1) * (V - 1) + (V - 1) + (V - 1) < Root.W := by decide
  unfold mulN addN
  refine ⟨?_, ?_, ?_⟩
  · rw [← Int.natCast_mul]; exact Root.u64_wrap _ (by omega)
  · rw [← Int.natCast_add]; exact Root.u64_wrap _ (by omega)
  · rw [← Int.natCast_add, show x * y + o + cy = x * y + cy + o by omega]; exact Root.u64_wrap _ (by omega)
theorem quo_wrap {t : Nat} (h : t / V < V) : IntKind.u64.wrap ((t : Int) / 4294967296) = ((t / V : Nat) : Int) := by
  have e : ((t : Int) / 4294967296) = ((t / V : Nat) : Int) := by simp [V]
  rw [e]
  exact Root.u64_wrap _ (Nat.lt_trans h (by decide))
/-- What 'product' answers. -/
def ProdPost (a b : Nat → Nat) (la lb : Nat) (w : World) (e : Ending) (w' : World) : Prop :=
  ∃ c : Nat → Nat, e = .returned (.slice (some ⟨w.heap.size, 0, none⟩) (la + lb) (la + lb)) ∧ w'.rowIs w.heap.size 28 (la + lb) (fun j => .int .u64 (c j)) ∧ (∀ j, c j < V) ∧ val c (la + lb) = val a la * val b lb ∧ Below w.heap.size w w'
set_option maxRecDepth 100000 in
theorem product_any (a b : Nat → Nat) (la lb ba bb ca cb : Nat) (w : World) (hA : w.rowIs ba 28 la (fun j => .int .u64 (a j))) (hB : w.rowIs bb 28 lb (fun j => .int .u64 (b j))) (hla : la ≤ 1000) (hlb : lb ≤ 1000) (hWa : ∀ j, a j < V) (hWb : ∀ j, b j < V) :
    Calls Try.prog 74 #[.slice (some ⟨ba, 0, none⟩) la ca, .slice (some ⟨bb, 0, none⟩) lb cb] w (ProdPost a b la lb w) := by
  have hmk := fun W => run_make_row' (P := Try.prog) 90 28 (.int .u64 0) 8 Try.underlying90 Root.infoU64 rfl .i64 .i64 (la + lb) (by omega) (by omega) W
  simp only [Int.natCast_add] at hmk
  have hAlt := hA.lt
  have hBlt := hB.lt
  have HA := Lib.hid hA
  have HB := Lib.hid hB
  have HWa := Lib.hid hWa
  have HWb := Lib.hid hWb
  clear hA hB hWa hWb
  go_enter Try.func74, Try.ntmps74
  go_wp2
  clear hmk
  go_loopw [6] (fun s wr => ∃ (i : Nat) (c : Nat → Nat), i ≤ la ∧ s = .int .i64 i ∧ wr.rowIs w.heap.size 28 (la + lb) (fun j => .int .u64 (c j)) ∧ Below w.heap.size w wr ∧ OutInv a b la lb i c) (fun s _ => la - (intOf s).toNat)
  case atStart => exact ⟨0, fun _ => 0, Nat.zero_le _, rfl, World.rowIs_made _ _ _ _, (Below.refl _ _).alloc (Nat.le_refl _) _, fun _ => V_pos, fun _ _ => rfl, by rw [val_zero]; simp [val]⟩
  case round =>
    obtain ⟨i, c, hi, rfl, hrow, hbel, hinv⟩ := hrel
    have HR := Lib.hid hrow
    have HI := Lib.hid hinv
    clear hrow hinv
    by_cases hlt : i < la
    · go_wp2
      obtain ⟨wo, rfl⟩ : ∃ wo : World, wo = wr := ⟨_, rfl⟩
      have hx := HWa.out i
      go_loopw [7, 8] (fun s8 s29 wr => ∃ (k cy : Nat) (c : Nat → Nat), k ≤ lb ∧ s8 = .int .u64 cy ∧ s29 = .int .i64 k ∧ wr.rowIs w.heap.size 28 (la + lb) (fun j => .int .u64 (c j)) ∧ Below w.heap.size w wr ∧ InInv a b la lb i k cy c) (fun _ s _ => lb - (intOf s).toNat)
      case atStart => exact ⟨0, 0, c, Nat.zero_le _, rfl, rfl, HR.out, hbel, in_start HI.out⟩
      case round =>
        obtain ⟨k, cy, c, hk, rfl, rfl, hrow, hbel2, hinv⟩ := hrel
        by_cases hkl : k < lb
        · have hy := HWb.out k
          have hcy := hinv.2.1
          have ho := hinv.1 (i + k)
          have hca := (HA.out.of_block (hbel2.block ba hAlt)).cell hlt
          have hcb := (HB.out.of_block (hbel2.block bb hBlt)).cell hkl
          have hco := hrow.cell (i := i + k) (by omega)
          have hcf := hrow.frozen (i + k)
          have hin := in_step hx hy hlt hkl hinv
          obtain ⟨s1, s2, s3⟩ := step_walk (a i) (b k) cy (c (i + k)) hx hy hcy ho
          have h1 : IntKind.i64.wrap ((i : Int) + (k : Int)) = (i : Int) + (k : Int) := IntWalk.i64_in _ (by omega)
          have h2 : (0 : Int) ≤ (i : Int) + (k : Int) := by omega
          have h3 : ((i : Int) + (k : Int)).toNat = i + k := by omega
          have h4 : (i : Int) + (k : Int) < (la : Int) + (lb : Int) := by omega
          have h5 : (i : Int) < la := by omega
          have h6 : (k : Int) < lb := by omega
          have HR2 := Lib.hid hrow
          have HIN := Lib.hid hin
          clear hrow hinv hx hy hcy ho hin
          generalize a i * b k + cy + c (i + k) = t at *
          go_wp2
          go_quiet (fail)
          clear h1 h2 h3 h4 h5 h6 s1 s2 s3
          have hdr : (wr.drewN nq).rowIs w.heap.size 28 (la + lb) (fun j => .int .u64 (c j)) := HR2.out
          have hrow2 := hdr.set (i + k) (.int .u64 ((t : Int) % 4294967296))
          have HR3 := Lib.hid hrow2
          clear hdr hrow2
          go_wp2
          go_roundw
          case rel =>
            exact ⟨k + 1, t / V, upd c (i + k) (t % V), by omega, congrArg (Value.int .u64) (quo_wrap HIN.out.2.1), by go_num, HR3.out.congr (fun j _ => by unfold upd; split <;> simp [V]), by ((repeat' (with_reducible first | exact Below.refl _ _ | assumption | refine Below.drew ?_ | refine below_drewN ?_ _ | refine Below.setCell ?_ ?_ _ | refine Below.alloc ?_ ?_ _ | refine Below.ext ?_ ?_ _ | refine Below.trans ?_ (Below.mono ‹_› ?_))) <;> first | omega | (simp; done) | (simp; omega)), HIN.out⟩
          case measure => simp [intOf]; omega
        · obtain rfl : k = lb := by omega
          have hco := hrow.cell (i := i + k) (by omega)
          have hcf := hrow.frozen (i + k)
          have hz : c (i + k) = 0 := hinv.2.2.1 _ (Nat.le_refl _)
          have hend := in_end hlt hinv
          rw [hz, Nat.zero_add] at hend
          have hrow2 := hrow.set (i + k) (.int .u64 cy)
          clear hz hinv hrow
          have HE := Lib.hid hend
          have HR2 := Lib.hid hrow2
          clear hend hrow2
          go_wp2
          go_roundw
          case rel =>
            exact ⟨i + 1, upd c (i + k) cy, by omega, by go_num, HR2.out.congr (fun j _ => by unfold upd; split <;> rfl), hbel2.setCell (Nat.le_refl _) _, HE.out⟩
          case measure => simp [intOf]; omega
    · obtain rfl : i = la := by omega
      go_wp2
      go_ret
      exact ⟨c, rfl, HR.out, HI.out.1, HI.out.2.2, hbel⟩
/-- 'atMost': is a long number at most p times V to the n? -/
def atMostB (g : Nat → Nat) (la p n : Nat) : Bool := decide (val g la ≤ p * V ^ n)
/-- p times V to the n, digit by digit. -/
def want (p n : Nat) : Nat → Nat := fun j => if j = n then p else 0
theorem want_val (p n : Nat) : ∀ la, n < la → val (want p n) la = p * V ^ n
  | 0, h => by omega
  | la + 1, h => by
    rw [val_succ]
    by_cases e : n = la
    · subst e
      have : val (want p n) n = 0 := by
        rw [val_zeros (want p n) 0 (Nat.zero_le _) fun j _ h2 => by unfold want; rw [if_neg (by omega)]]
        rfl
      rw [this, show want p n n = p by unfold want; rw [if_pos rfl], Nat.zero_add]
    · rw [want_val p n la (by omega), show want p n la = 0 by unfold want; rw [if_neg (by omega)], Nat.zero_mul, Nat.add_zero]
theorem val_above {f g : Nat → Nat} {i : Nat} : ∀ {la : Nat}, i < la → (∀ j, i < j → j < la → f j = g j) → ∃ r, val f la = val f (i + 1) + r ∧ val g la = val g (i + 1) + r
  | 0, h, _ => by omega
  | la + 1, h, he => by
    by_cases e : i = la
    · subst e; exact ⟨0, rfl, rfl⟩
    · obtain ⟨r, h1, h2⟩ := val_above (f := f) (g := g) (show i < la by omega) fun j a b => he j a (by omega)
      refine ⟨r + f la * V ^ la, ?_, ?_⟩
      · rw [val_succ, h1]; omega
      · rw [val_succ, h2, he la (by omega) (by omega)]; omega
theorem lex {f g : Nat → Nat} {i la : Nat} (hf : ∀ j, f j < V) (hg : ∀ j, g j < V) (hi : i < la) (he : ∀ j, i < j → j < la → f j = g j) (hne : f i ≠ g i) : (val f la ≤ val g la) ↔ f i < g i := by
  obtain ⟨r, h1, h2⟩ := val_above hi he
  rw [h1, h2, val_succ, val_succ]
  have a := val_lt f hf i
  have b := val_lt g hg i
  constructor
  · intro h
    rcases Nat.lt_or_ge (f i) (g i) with h' | h'
    · exact h'
    · exfalso
      have := Nat.mul_le_mul_right (V ^ i) (show g i + 1 ≤ f i by omega)
      rw [Nat.succ_mul] at this
      omega
  · intro h
    have := Nat.mul_le_mul_right (V ^ i) (show f i + 1 ≤ g i from h)
    rw [Nat.succ_mul] at this
    omega
set_option maxRecDepth 100000 in
theorem atMost_any (g : Nat → Nat) (la p n ba ca : Nat) (w : World) (hA : w.rowIs ba 28 la (fun j => .int .u64 (g j))) (hla : la ≤ 1000) (hW : ∀ j, g j < V) (hp : p < V) (hn : n < la) :
    Calls Try.prog 50 #[.slice (some ⟨ba, 0, none⟩) la ca, .int .u64 p, .int .i64 n] w fun e w' => e = .returned (.bool (atMostB g la p n)) ∧ w = w' := by
  have HA := Lib.hid hA
  have hwt : ∀ j, want p n j < V := fun j => by
    unfold want
    split
    · exact hp
    · exact V_pos
  have hb : ∀ i, i < la → (∀ j, i < j → j < la → g j = want p n j) → g i ≠ want p n i → atMostB g la p n = decide (g i < want p n i) := fun i h1 h2 h3 => by
    unfold atMostB
    rw [Bool.eq_iff_iff, decide_eq_true_eq, decide_eq_true_eq, ← want_val p n la hn]
    exact lex hW hwt h1 h2 h3
  have he : (∀ j, j < la → g j = want p n j) → atMostB g la p n = true := fun h => by
    unfold atMostB
    rw [decide_eq_true_eq, ← want_val p n la hn, val_congr h]
    exact Nat.le_refl _
  have HB := Lib.hid hb
  have HE := Lib.hid he
  clear hA hW hp hwt hb he
  go_enter Try.func50, Try.ntmps50
  go_wp2
  go_loop [7] (fun s => ∃ m : Nat, m ≤ la ∧ s = .int .i64 ((m : Int) - 1) ∧ ∀ j, m ≤ j → j < la → g j = want p n j) (fun s => (intOf s + 1).toNat)
  case atStart => exact ⟨la, Nat.le_refl _, rfl, fun j h1 h2 => by omega⟩
  case round =>
    obtain ⟨m, hm, rfl, hz⟩ := hrel
    by_cases h0 : m = 0
    · subst h0
      have e := HE.out fun j h => hz j (Nat.zero_le _) h
      have HT := Lib.hid e
      clear e hz
      go_wp2
      go_ret
      exact ⟨by rw [HT.out]; rfl, rfl⟩
    · obtain ⟨i, rfl⟩ : ∃ i, m = i + 1 := ⟨m - 1, by omega⟩
      have hi1 : (((i + 1 : Nat) : Int) - 1) = (i : Int) := by omega
      rw [hi1]
      clear hi1
      have hil : i < la := by omega
      have hcell := HA.out.cell hil
      have hb := HB.out i hil fun j h1 h2 => hz j h1 h2
      have HZ := Lib.hid hz
      have HBI := Lib.hid hb
      clear hz hb
      by_cases hin : i = n
      · subst hin
        have hw : want p i i = p := by unfold want; rw [if_pos rfl]
        cases hpp : (((g i : Nat) : Int) == (p : Int))
        · have e := HBI.out (by rw [hw]; rw [beq_eq_false_iff_ne] at hpp; omega)
          rw [hw] at e
          have HT := Lib.hid e
          clear e hw
          have hii : ((i : Int) == (i : Int)) = true := by simp
          go_wp2
          go_ret
          exact ⟨by rw [HT.out]; exact ret_bool (by simp), rfl⟩
        · have hz' : ∀ j, i ≤ j → j < la → g j = want p i j := fun j h1 h2 => by
            by_cases e : j = i
            · rw [e, hw]; rw [beq_iff_eq] at hpp; omega
            · exact HZ.out j (by omega) h2
          have HZ2 := Lib.hid hz'
          clear hz' hw
          go_wp2
          go_round
          case rel => exact ⟨i, by omega, rfl, HZ2.out⟩
          case measure => simp [intOf]
      · have hw : want p n i = 0 := by unfold want; rw [if_neg hin]
        have hin' : ((i : Int) == (n : Int)) = false := by rw [beq_eq_false_iff_ne]; omega
        cases hpp : (((g i : Nat) : Int) == 0)
        · have e := HBI.out (by rw [hw]; rw [beq_eq_false_iff_ne] at hpp; omega)
          rw [hw] at e
          have HT := Lib.hid e
          clear e hw
          go_wp2
          go_ret
          exact ⟨by rw [HT.out]; exact ret_bool (by simp), rfl⟩
        · have hz' : ∀ j, i ≤ j → j < la → g j = want p n j := fun j h1 h2 => by
            by_cases e : j = i
            · rw [e, hw]; rw [beq_iff_eq] at hpp; omega
            · exact HZ.out j (by omega) h2
          have HZ2 := Lib.hid hz'
          clear hz' hw
          go_wp2
          go_round
          case rel => exact ⟨i, by omega, rfl, HZ2.out⟩
          case measure => simp [intOf]
end Go.Proofs.Ythoickghfjgmmaa.Ref05
