/-
  Several texts in one: Aes1 Aes2 Aes3 Aes4 Aes5 Aes6 Aes7 Aes8.
  Conditions: named at each.
-/
import Derived.Test.YtlbpodddokhmaaaGreatArr
import Derived.Test.YtlbpodddokhmaaaGreatGfM
import Derived.Laws.BitsAllLaws
import Derived.StillTailTactics
import Derived.Laws.AppendOwn
import Derived.Laws.OwnMore
import Derived.OwnWalk
import Derived.Deep.AppendLies
import Derived.Laws.Cover3
/-
  AES: the walk of its bytes: Times, RotateLeft8, affine.
  Conditions: bytes.
-/
namespace Go.Proofs.YtlbpodddokhmaaaGreat.Aes
open Go.ChangeShapes Go.WideShapes Go.ChangeAt Go.RowKit Go.Deep
/-- A byte times x. -/
def xt (a : Nat) : Nat := a * 2 % 256 ^^^ a / 128 * 27
def mulGo : Nat → Nat → Nat → Nat → Nat
  | 0, _, _, o => o
  | n + 1, a, b, o => if b = 0 then o else mulGo n (xt a) (b / 2) (if b % 2 = 1 then o ^^^ a else o)
/-- A product of bytes. -/
def mulB (a b : Nat) : Nat := mulGo 8 a b 0
theorem xor_lt {a b : Nat} (ha : a < 256) (hb : b < 256) : a ^^^ b < 256 := Nat.xor_lt_two_pow (n := 8) ha hb
theorem xt_lt {a : Nat} (ha : a < 256) : xt a < 256 := xor_lt (by omega) (by omega)
theorem mulGo_zero (n a o : Nat) : mulGo n a 0 o = o := by cases n <;> rfl
theorem mulGo_lt : ∀ n a b o, a < 256 → o < 256 → mulGo n a b o < 256
  | 0, _, _, _, _, h => h
  | n + 1, a, b, o, ha, ho => by
    unfold mulGo
    split
    · exact ho
    · exact mulGo_lt n _ _ _ (xt_lt ha) (by split; exact xor_lt ho ha; exact ho)
theorem mulB_lt {a : Nat} (b : Nat) (ha : a < 256) : mulB a b < 256 := mulGo_lt 8 a b 0 ha (by omega)
theorem mulGo_odd {n a b o : Nat} (h : b % 2 = 1) : mulGo (n + 1) a b o = mulGo n (xt a) (b / 2) (o ^^^ a) := by
  rw [mulGo, if_neg (by omega), if_pos h]
theorem mulGo_even {n a b o : Nat} (h : ¬ b % 2 = 1) (h0 : ¬ b = 0) : mulGo (n + 1) a b o = mulGo n (xt a) (b / 2) o := by
  rw [mulGo, if_neg h0, if_neg h]
theorem step_x {x : Nat} (hx : x < 256) : bits .xor .u8 ((x : Int) * 2 % 256) ((x : Int) / 128 * 27) = ((xt x : Nat) : Int) := by
  rw [show (x : Int) * 2 % 256 = ((x * 2 % 256 : Nat) : Int) by omega, show (x : Int) / 128 * 27 = ((x / 128 * 27 : Nat) : Int) by omega]
  exact u8_xor_nat _ _ (by omega) (by omega)
theorem Times_any (a b : Nat) (w : World) (ha : a < 256) (hb : b < 256) : Calls Tryz.prog 131 #[.int .u8 a, .int .u8 b] w fun e w' => e = .returned (.int .u8 ((mulB a b : Nat) : Int)) ∧ w = w' := by
  go_enter Tryz.func131, Tryz.ntmps131
  go_wp2
  go_loop [0, 1, 5] (fun s0 s1 s5 => ∃ n x y o : Nat, s0 = .int .u8 x ∧ s1 = .int .u8 y ∧ s5 = .int .u8 o ∧ x < 256 ∧ o < 256 ∧ y < 2 ^ n ∧ y < 256 ∧ mulGo n x y o = mulB a b) (fun _ s _ => (intOf s).toNat)
  case atStart => exact ⟨8, a, b, 0, rfl, rfl, rfl, ha, by omega, by omega, hb, rfl⟩
  case round =>
    obtain ⟨n, x, y, o, rfl, rfl, rfl, hx, ho, hy, hy2, hm⟩ := hrel
    by_cases h0 : y = 0
    · subst h0
      rw [mulGo_zero] at hm
      have HM := Lib.hid hm
      clear hm
      go_wp2
      go_ret
      exact ⟨by rw [HM.out]; rfl, rfl⟩
    · obtain ⟨m, rfl⟩ : ∃ m, n = m + 1 := ⟨n - 1, by rcases n with _ | n <;> omega⟩
      have h0' : ¬ (y : Int) = 0 := by omega
      have hx1 := u8_and_nat y 1 hy2 (by omega)
      rw [nat_mask1] at hx1
      have hy3 : y / 2 < 2 ^ m := by rw [Nat.pow_succ] at hy; omega
      by_cases hb2 : y % 2 = 1
      · rw [mulGo_odd hb2] at hm
        have HM := Lib.hid hm
        have hc : bits .and .u8 (y : Int) 1 = 1 := by rw [hb2] at hx1; exact hx1
        clear hm hx1
        go_wp2
        go_round
        case rel => exact ⟨m, xt x, y / 2, o ^^^ x, by rw [step_x hx], by simp, by rw [u8_xor_nat o x ho hx], xt_lt hx, xor_lt ho hx, hy3, by omega, HM.out⟩
        case measure => simp [intOf]; omega
      · rw [mulGo_even hb2 h0] at hm
        have HM := Lib.hid hm
        have hc : bits .and .u8 (y : Int) 1 = 0 := by rw [show y % 2 = 0 by omega] at hx1; exact hx1
        clear hm hx1
        go_wp2
        go_round
        case rel => exact ⟨m, xt x, y / 2, o, by rw [step_x hx], by simp, rfl, xt_lt hx, ho, hy3, by omega, HM.out⟩
        case measure => simp [intOf]; omega
/-- A byte turned left. -/
def rotB (b i : Nat) : Nat := b * 2 ^ i % 256 ||| b / 2 ^ (8 - i)
theorem rotB_lt {b i : Nat} (hb : b < 256) : rotB b i < 256 := Nat.or_lt_two_pow (n := 8) (by omega) (Nat.lt_of_le_of_lt (Nat.div_le_self _ _) hb)
theorem Rot_any (b i : Nat) (w : World) (hb : b < 256) (hi : i < 8) : Calls Tryz.prog 146 #[.int .u8 b, .int .i64 i] w fun e w' => e = .returned (.int .u8 ((rotB b i : Nat) : Int)) ∧ w = w' := by
  have h7 : bits .and .u64 (i : Int) 7 = (i : Int) := by
    have h := bits_and_u64_nat i 7 (by omega) (by omega)
    rw [nat_mask3, Nat.mod_eq_of_lt hi] at h
    exact h
  have h8 : (i : Int) ≤ 8 := by omega
  have h9 : i ≤ 8 := by omega
  go_enter Tryz.func146, Tryz.ntmps146
  go_wp2
  go_ret
  refine ⟨ret_int ?_, rfl⟩
  have e1 : (b : Int) * 2 ^ i % 256 = ((b * 2 ^ i % 256 : Nat) : Int) := by simp
  have e2 : (b : Int) / 2 ^ (8 - i) = ((b / 2 ^ (8 - i) : Nat) : Int) := by simp
  rw [e1, e2]
  exact u8_or_nat _ _ (by omega) (Nat.lt_of_le_of_lt (Nat.div_le_self _ _) hb)
/-- The affine turn of a byte, step by step. -/
def affI (b : Nat) : Nat → Nat
  | 0 => b ^^^ 99
  | n + 1 => affI b n ^^^ rotB b (n + 1)
def aff (b : Nat) : Nat := affI b 4
theorem affI_lt {b : Nat} (hb : b < 256) : ∀ n, affI b n < 256
  | 0 => xor_lt hb (by omega)
  | n + 1 => xor_lt (affI_lt hb n) (rotB_lt hb)
theorem aff_lt {b : Nat} (hb : b < 256) : aff b < 256 := affI_lt hb 4
theorem affine_any (b : Nat) (w : World) (hb : b < 256) : Calls Tryz.prog 130 #[.int .u8 b] w fun e w' => e = .returned (.int .u8 ((aff b : Nat) : Int)) ∧ w = w' := by
  have hx0 := u8_xor_nat b 99 hb (by omega)
  have HR := Lib.hid fun i (hi : i < 8) (W : World) => Rot_any b i W hb hi
  go_enter Tryz.func130, Tryz.ntmps130
  go_wp2
  go_loop [3, 4] (fun s3 s4 => ∃ n : Nat, n ≤ 4 ∧ s4 = .int .i64 (n + 1) ∧ s3 = .int .u8 (affI b n)) (fun _ s => 5 - (intOf s).toNat)
  case atStart => exact ⟨0, by omega, rfl, by rw [show (affI b 0 : Nat) = b ^^^ 99 from rfl, ← hx0]; rfl⟩
  case round =>
    obtain ⟨n, hn, rfl, rfl⟩ := hrel
    clear hx0
    by_cases h4 : n = 4
    · subst h4
      go_wp2
      go_ret
      exact ⟨rfl, rfl⟩
    · have hlt : (n : Int) + 1 ≤ 4 := by omega
      have hx := u8_xor_nat (affI b n) (rotB b (n + 1)) (affI_lt hb n) (rotB_lt hb)
      have hr : ∀ W, Calls Tryz.prog 146 #[.int .u8 b, .int .i64 ((n : Int) + 1)] W fun e w' => e = .returned (.int .u8 ((rotB b (n + 1) : Nat) : Int)) ∧ W = w' := fun W => HR.out (n + 1) (by omega) W
      have HR2 := Lib.hid hr
      have HX := Lib.hid hx
      clear hr hx
      go_wp2_with fail
      refine Calls.mono (HR2.out _) ?_
      rintro _ _ ⟨rfl, rfl⟩
      go_wp2
      go_round
      case rel => exact ⟨n + 1, by omega, by go_num, by rw [HX.out]; rfl⟩
      case measure => simp [intOf]; omega
end Go.Proofs.YtlbpodddokhmaaaGreat.Aes
/-
  AES: the walk of its states: add, read, through, turn, mix.
  Conditions: bytes.
-/
namespace Go.Proofs.YtlbpodddokhmaaaGreat.Aes
open Go.ChangeShapes Go.WideShapes Go.ChangeAt Go.RowKit Go.Deep
/-- Two lists' sum, entry by entry. -/
def addF (s t : List Nat) (n : Nat) : Nat := s.getD n 0 ^^^ t.getD n 0
set_option maxRecDepth 100000 in
theorem add_any (s t : List Nat) (w : World) (hs : s.length = 16) (ht : t.length = 16) (hsb : Bytes s) (htb : Bytes t) : Calls Tryz.prog 105 #[.agg (nums .u8 s), .agg (nums .u8 t)] w fun e w' => e = .returned (.agg (nums .u8 (tab (addF s t) 16))) ∧ Below w.heap.size w w' := by
  have HS := Lib.hid hs
  have HT := Lib.hid ht
  go_enter Tryz.func105, Tryz.ntmps105
  go_wp2
  go_loopw [7] (fun s7 wr => ∃ (i : Nat) (l : List Nat) (u : Xt), i ≤ 4 ∧ s7 = .int .i64 i ∧ l = fillN (addF s t) s (i * 4) ∧ l.length = 16 ∧ wr = ext (((w.alloc (.cells (nums .u8 l) 149)).alloc (.cells (nums .u8 t) 149)).alloc (.cells (nums .u8 (List.replicate 16 0)) 149)) u) (fun s _ => 4 - (intOf s).toNat)
  case atStart => exact ⟨0, s, ⟨#[], w.drawn⟩, by omega, rfl, rfl, hs, rfl⟩
  case round =>
    obtain ⟨i, l, u, hi, rfl, hl, hll, rfl⟩ := hrel
    by_cases h4 : i = 4
    · subst h4
      have HL := Lib.hid hl
      clear hl
      go_upto_region 10 with fail
      refine wp_keep_last rfl rfl 28 rfl rfl 149 _ _ _ rfl rfl w.heap.size (nums .u8 l) _ _ _ (.array 4 147) rfl (heap_under (heap_under (heap_alloc_last w _))) Tryz.underlying149 rfl (by rw [nums_size, hll]; kernel_rfl) (by rw [nums_size, nums_size, hll]; rfl) (nums_oneCell _ _) (w.heap.size + 1 + 1) (by simp) rfl rfl ?_
      go_wp2
      refine post_last (w.heap.size + 1 + 1) (by simp) Tryz.results105 149 (nums .u8 l) (.array 4 147) rfl Tryz.underlying149 rfl (by rw [nums_size, hll]; kernel_rfl) rfl ⟨?_, by ((repeat' (with_reducible first | exact Below.refl _ _ | assumption | refine Below.drew ?_ | refine below_drewN ?_ _ | refine Below.setCell ?_ ?_ _ | refine Below.alloc ?_ ?_ _ | refine Below.ext ?_ ?_ _ | refine Below.trans ?_ (Below.mono ‹_› ?_))) <;> first | omega | (simp; done) | (simp; omega))⟩
      rw [HL.out, fillN_full _ HS.out]
    · have hlt : (i : Int) < 4 := by omega
      have hi4 : i < 4 := by omega
      have HL := Lib.hid hl
      clear hl
      go_wp2
      go_loopw [10] (fun s10 wr => ∃ (k : Nat) (l : List Nat) (u : Xt), k ≤ 4 ∧ s10 = .int .i64 k ∧ l = fillN (addF s t) s (i * 4 + k) ∧ l.length = 16 ∧ wr = ext (((w.alloc (.cells (nums .u8 l) 149)).alloc (.cells (nums .u8 t) 149)).alloc (.cells (nums .u8 (List.replicate 16 0)) 149)) u) (fun s _ => 4 - (intOf s).toNat)
      case atStart => exact ⟨0, l, u, by omega, rfl, HL.out, hll, rfl⟩
      case round =>
        clear hll HL l u
        obtain ⟨k, l, u, hk, rfl, hl, hll, rfl⟩ := hrel
        have HL := Lib.hid hl
        by_cases h4 : k = 4
        · subst h4
          clear hl
          go_wp2
          go_round
          case rel => exact ⟨i + 1, l, _, by omega, by go_num, by rw [HL.out, Nat.add_mul], hll, rfl⟩
          case measure => simp [intOf]; omega
        · have hlk : (k : Int) < 4 := by omega
          have hlk' : k < 4 := by omega
          have hg := nums_getD .u8 (l := l) (i := i * 4 + k) (by omega)
          have hg2 := nums_getD .u8 (l := t) (i := i * 4 + k) (by omega)
          clear hl
          go_wp2
          go_region
          go_wp2
          go_round
          case rel =>
            have hls : l.getD (i * 4 + k) 0 = s.getD (i * 4 + k) 0 := by
              rw [HL.out, fillN_get _ _ _ _ (by rw [HS.out]; omega), if_neg (by omega)]
            have hval : bits .xor .u8 ((l.getD (i * 4 + k) 0 : Nat) : Int) ((t.getD (i * 4 + k) 0 : Nat) : Int) = ((addF s t (i * 4 + k) : Nat) : Int) := by
              rw [hls]; exact u8_xor_nat _ _ (hsb _) (htb _)
            rw [List.getD_eq_getElem?_getD, List.getD_eq_getElem?_getD] at hval
            refine ⟨k + 1, l.set (i * 4 + k) (addF s t (i * 4 + k)), bump u, by omega, by go_num, ?_, by simp [hll], ?_⟩
            · rw [HL.out]; rfl
            · rw [hval, nums_set]
              rfl
          case measure => simp [intOf]; omega
def zeros (n : Nat) : List Nat := List.replicate n 0
def byteF (l : List UInt8) (n : Nat) : Nat := (l.getD n 0).toNat
theorem byteF_lt (l : List UInt8) (n : Nat) : byteF l n < 256 := (l.getD n 0).toNat_lt
set_option maxRecDepth 100000 in
theorem read_any (b : List UInt8) (w : World) (hb : b.length = 16) : Calls Tryz.prog 104 #[.string (B b)] w fun e w' => e = .returned (.agg (nums .u8 (tab (byteF b) 16))) ∧ Below w.heap.size w w' := by
  go_enter Tryz.func104, Tryz.ntmps104
  go_wp2
  go_loopw [5] (fun s5 wr => ∃ (i : Nat) (l : List Nat) (u : Xt), i ≤ 16 ∧ s5 = .int .i64 i ∧ l = fillN (byteF b) (zeros 16) i ∧ l.length = 16 ∧ wr = ext ((w.alloc (.cells (nums .u8 (zeros 16)) 149)).alloc (.cells (nums .u8 l) 149)) u) (fun s _ => 16 - (intOf s).toNat)
  case atStart => exact ⟨0, zeros 16, ⟨#[], w.drawn⟩, by omega, rfl, rfl, rfl, rfl⟩
  case round =>
    obtain ⟨i, l, u, hi, rfl, hl, hll, rfl⟩ := hrel
    have HL := Lib.hid hl
    clear hl
    by_cases h16 : i = 16
    · subst h16
      go_upto_region 7 with fail
      refine wp_keep_row rfl rfl 18 rfl rfl 149 _ _ _ rfl rfl (w.heap.size + 1) w.heap.size (nums .u8 l) (nums .u8 (zeros 16)) 149 149 (.array 4 147) rfl (heap_ext (heap_at (by simp))) (heap_ext (heap_under (heap_alloc_last w _))) Tryz.underlying149 rfl (by rw [nums_size, hll]; kernel_rfl) (by rw [nums_size, nums_size, hll]; rfl) (nums_oneCell _ _) rfl rfl (by rw [setRow_ext _ _ _ _ (by simp; omega), setRow_under _ _ _ _ lt_of_last, World.setRow_alloc_new]) ?_
      go_wp2
      refine post_row w.heap.size Tryz.results104 149 (nums .u8 l) (.array 4 147) rfl (heap_ext (heap_under (heap_alloc_last w _))) Tryz.underlying149 rfl (by rw [nums_size, hll]; kernel_rfl) rfl ⟨?_, by ((repeat' (with_reducible first | exact Below.refl _ _ | assumption | refine Below.drew ?_ | refine below_drewN ?_ _ | refine Below.setCell ?_ ?_ _ | refine Below.alloc ?_ ?_ _ | refine Below.ext ?_ ?_ _ | refine Below.trans ?_ (Below.mono ‹_› ?_))) <;> first | omega | (simp; done) | (simp; omega))⟩
      rw [HL.out, fillN_full _ (by rfl)]
    · have hlt : (i : Int) < 16 := by omega
      have hlt2 : i < 16 := by omega
      have hg := nums_getD .u8 (l := l) (i := i) (by omega)
      have hdm : i / 4 * 4 + i % 4 = i := by omega
      go_wp2
      go_region
      go_wp2
      go_round
      case rel =>
        have hval : ((b[i].toNat : Nat) : Int) = ((byteF b i : Nat) : Int) := by simp [byteF, List.getD, hb, hlt2]
        refine ⟨i + 1, l.set i (byteF b i), bump u, by omega, by go_num, ?_, by simp [hll], ?_⟩
        · rw [HL.out]; rfl
        · rw [hval, nums_set]
      case measure => simp [intOf]; omega
end Go.Proofs.YtlbpodddokhmaaaGreat.Aes
/-
  AES: the walk of its states: through, turn, mix.
  Conditions: bytes.
-/
namespace Go.Proofs.YtlbpodddokhmaaaGreat.Aes
open Go.ChangeShapes Go.WideShapes Go.ChangeAt Go.RowKit Go.Deep
/-- A state put through a table. -/
def thrF (T s : List Nat) (n : Nat) : Nat := T.getD (s.getD n 0) 0
/-- A table lies in memory. -/
def TabAt (w : World) (tb off : Nat) (T : List Nat) : Prop := tb < w.heap.size ∧ ∀ x, x < 256 → w.cell? ⟨tb, off + x, none⟩ = some (.int .u8 ((T.getD x 0 : Nat) : Int))
/-- A state's row. -/
def rowOf (s : List Nat) (i : Nat) : List Nat := [s.getD (i * 4) 0, s.getD (i * 4 + 1) 0, s.getD (i * 4 + 2) 0, s.getD (i * 4 + 3) 0]
theorem rowOf_eq (s : List Nat) (i : Nat) : #[Value.int .u8 ((s[i * 4]?.getD 0 : Nat) : Int), .int .u8 ((s[i * 4 + 1]?.getD 0 : Nat) : Int), .int .u8 ((s[i * 4 + 2]?.getD 0 : Nat) : Int), .int .u8 ((s[i * 4 + 3]?.getD 0 : Nat) : Int)] = nums .u8 (rowOf s i) := by
  simp [nums, rowOf]
theorem row_get (s : List Nat) (i k : Nat) (h : k < 4) : (nums .u8 (rowOf s i))[k]? = some (.int .u8 ((s.getD (i * 4 + k) 0 : Nat) : Int)) := by
  match k, h with
  | 0, _ => rfl
  | 1, _ => rfl
  | 2, _ => rfl
  | 3, _ => rfl
set_option maxRecDepth 100000 in
theorem through_any (T s : List Nat) (tb off : Nat) (w : World) (hs : s.length = 16) (hsb : Bytes s) (hT : TabAt w tb off T) : Calls Tryz.prog 106 #[.agg (nums .u8 s), .pointer (some ⟨tb, off, none⟩)] w fun e w' => e = .returned (.agg (nums .u8 (tab (thrF T s) 16))) ∧ Below w.heap.size w w' := by
  have HS := Lib.hid hs
  have htb := hT.1
  have HT := Lib.hid hT.2
  clear hT
  go_enter Tryz.func106, Tryz.ntmps106
  go_wp2
  go_loopw [8] (fun s8 wr => ∃ (i : Nat) (l : List Nat) (u : Xt), i ≤ 4 ∧ s8 = .int .i64 i ∧ l = fillN (thrF T s) s (i * 4) ∧ l.length = 16 ∧ wr = ext ((w.alloc (.cells (nums .u8 l) 149)).alloc (.cells (nums .u8 (zeros 16)) 149)) u) (fun s _ => 4 - (intOf s).toNat)
  case atStart => exact ⟨0, s, ⟨#[], w.drawn⟩, by omega, rfl, rfl, hs, rfl⟩
  case round =>
    obtain ⟨i, l, u, hi, rfl, hl, hll, rfl⟩ := hrel
    have HL := Lib.hid hl
    by_cases h4 : i = 4
    · subst h4
      clear hl
      go_upto_region 10 with fail
      refine wp_keep_last rfl rfl 29 rfl rfl 149 _ _ _ rfl rfl w.heap.size (nums .u8 l) _ _ _ (.array 4 147) rfl (heap_under (heap_alloc_last w _)) Tryz.underlying149 rfl (by rw [nums_size, hll]; kernel_rfl) (by rw [nums_size, nums_size, hll]; rfl) (nums_oneCell _ _) (w.heap.size + 1) (by simp) rfl rfl ?_
      go_wp2
      refine post_last (w.heap.size + 1) (by simp) Tryz.results106 149 (nums .u8 l) (.array 4 147) rfl Tryz.underlying149 rfl (by rw [nums_size, hll]; kernel_rfl) rfl ⟨?_, by ((repeat' (with_reducible first | exact Below.refl _ _ | assumption | refine Below.drew ?_ | refine below_drewN ?_ _ | refine Below.setCell ?_ ?_ _ | refine Below.alloc ?_ ?_ _ | refine Below.ext ?_ ?_ _ | refine Below.trans ?_ (Below.mono ‹_› ?_))) <;> first | omega | (simp; done) | (simp; omega))⟩
      rw [HL.out, fillN_full _ HS.out]
    · have hlt : (i : Int) < 4 := by omega
      have hi4 : i < 4 := by omega
      clear hl
      have hg0 := nums_getD .u8 (l := l) (i := i * 4) (by omega)
      have hg1 := nums_getD .u8 (l := l) (i := i * 4 + 1) (by omega)
      have hg2 := nums_getD .u8 (l := l) (i := i * 4 + 2) (by omega)
      have hg3 := nums_getD .u8 (l := l) (i := i * 4 + 3) (by omega)
      go_wp2
      have e : ∀ j, j < 4 → l.getD (i * 4 + j) 0 = s.getD (i * 4 + j) 0 := fun j hj => by
        rw [HL.out, fillN_get _ _ _ _ (by rw [HS.out]; omega), if_neg (by omega)]
      have e0 := e 0 (by omega)
      have e1 := e 1 (by omega)
      have e2 := e 2 (by omega)
      have e3 := e 3 (by omega)
      simp only [List.getD_eq_getElem?_getD, Nat.add_zero] at e0 e1 e2 e3
      rw [e0, e1, e2, e3, rowOf_eq]
      clear e0 e1 e2 e3 e
      go_loopw [14] (fun s14 wr => ∃ (k : Nat) (l : List Nat) (u : Xt), k ≤ 4 ∧ s14 = .int .i64 k ∧ l = fillN (thrF T s) s (i * 4 + k) ∧ l.length = 16 ∧ wr = ext ((w.alloc (.cells (nums .u8 l) 149)).alloc (.cells (nums .u8 (zeros 16)) 149)) u) (fun s _ => 4 - (intOf s).toNat)
      case atStart => exact ⟨0, l, u, by omega, rfl, HL.out, hll, rfl⟩
      case round =>
        clear hg0 hg1 hg2 hg3 hll HL l u
        obtain ⟨k, l, u, hk, rfl, hl, hll, rfl⟩ := hrel
        have HL := Lib.hid hl
        clear hl
        by_cases h4 : k = 4
        · subst h4
          go_wp2
          go_round
          case rel => exact ⟨i + 1, l, _, by omega, by go_num, by rw [HL.out, Nat.add_mul], hll, rfl⟩
          case measure => simp [intOf]; omega
        · have hlk : (k : Int) < 4 := by omega
          have hlk' : k < 4 := by omega
          have hrow : (nums .u8 (rowOf s i))[k]? = some (.int .u8 ((s.getD (i * 4 + k) 0 : Nat) : Int)) := row_get s i k hlk'
          have hg := nums_getD .u8 (l := l) (i := i * 4 + k) (by omega)
          have hx := hsb (i * 4 + k)
          have hb := HT.out (s.getD (i * 4 + k) 0) hx
          have hval : T.getD (s.getD (i * 4 + k) 0) 0 = thrF T s (i * 4 + k) := rfl
          rw [hval] at hb
          clear hval
          generalize hv : thrF T s (i * 4 + k) = v at *
          have HV := Lib.hid hv
          clear hv
          generalize s.getD (i * 4 + k) 0 = x at *
          have hx' : (x : Int) < 256 := by omega
          have hidx := fun W => index_nums (P := Tryz.prog) W 147 5 4 k .u8 .i64 (nums .u8 (rowOf s i)) _ Tryz.underlying147 Tryz.underlying5 (by kernel_rfl) hlk' hrow
          clear hrow
          go_wp2
          go_region
          go_wp2
          go_round
          case rel =>
            refine ⟨k + 1, l.set (i * 4 + k) v, bump u, by omega, by go_num, ?_, by simp [hll], ?_⟩
            · rw [← HV.out, HL.out]; rfl
            · rw [nums_set]
          case measure => simp [intOf]; omega
/-- A state, each row turned by its number. -/
def turnF (s : List Nat) (n : Nat) : Nat := s.getD ((n / 4 + n % 4) % 4 * 4 + n % 4) 0
set_option maxRecDepth 100000 in
theorem turn_any (s : List Nat) (w : World) (hs : s.length = 16) : Calls Tryz.prog 107 #[.agg (nums .u8 s), .int .i64 1] w fun e w' => e = .returned (.agg (nums .u8 (tab (turnF s) 16))) ∧ Below w.heap.size w w' := by
  have HS := Lib.hid hs
  go_enter Tryz.func107, Tryz.ntmps107
  go_upto_region 1 with fail
  refine wp_copy_row rfl rfl rfl 8 5 rfl rfl rfl 149 _ _ _ rfl rfl w.heap.size (w.heap.size + 1 + 1) (nums .u8 s) (nums .u8 (zeros 16)) 149 149 (.array 4 147) (by simp) rfl (heap_under (heap_alloc_last w _)) Tryz.underlying149 rfl (by rw [nums_size, hs]; kernel_rfl) (by rw [nums_size, nums_size, hs]; rfl) (nums_oneCell _ _) (by kernel_rfl) rfl rfl ?_
  go_wp2
  go_loopw [9] (fun s9 wr => ∃ (i : Nat) (l : List Nat) (u : Xt), i ≤ 4 ∧ s9 = .int .i64 i ∧ l = fillN (turnF s) s (i * 4) ∧ l.length = 16 ∧ wr = ext (((w.alloc (.cells (nums .u8 s) 149)).alloc (.cells (nums .u8 (zeros 16)) 149)).alloc (.cells (nums .u8 l) 149)) u) (fun s _ => 4 - (intOf s).toNat)
  case atStart => exact ⟨0, s, ⟨#[], w.drawn⟩, by omega, rfl, rfl, hs, rfl⟩
  case round =>
    obtain ⟨i, l, u, hi, rfl, hl, hll, rfl⟩ := hrel
    have HL := Lib.hid hl
    clear hl
    by_cases h4 : i = 4
    · subst h4
      go_upto_region 11 with fail
      refine wp_keep_row rfl rfl 31 rfl rfl 149 _ _ _ rfl rfl (w.heap.size + 1 + 1) (w.heap.size + 1) (nums .u8 l) (nums .u8 (zeros 16)) 149 149 (.array 4 147) rfl (heap_ext (heap_at (by simp))) (heap_ext (heap_under (heap_at (by simp)))) Tryz.underlying149 rfl (by rw [nums_size, hll]; kernel_rfl) (by rw [nums_size, nums_size, hll]; rfl) (nums_oneCell _ _) rfl rfl (by rw [setRow_ext _ _ _ _ (by simp), setRow_under _ _ _ _ (by simp), setRow_at (by simp)]) ?_
      go_wp2
      refine post_row (w.heap.size + 1) Tryz.results107 149 (nums .u8 l) (.array 4 147) rfl (heap_ext (heap_under (heap_at (by simp)))) Tryz.underlying149 rfl (by rw [nums_size, hll]; kernel_rfl) rfl ⟨?_, by ((repeat' (with_reducible first | exact Below.refl _ _ | assumption | refine Below.drew ?_ | refine below_drewN ?_ _ | refine Below.setCell ?_ ?_ _ | refine Below.alloc ?_ ?_ _ | refine Below.ext ?_ ?_ _ | refine Below.trans ?_ (Below.mono ‹_› ?_))) <;> first | omega | (simp; done) | (simp; omega))⟩
      rw [HL.out, fillN_full _ HS.out]
    · have hlt : (i : Int) < 4 := by omega
      have hi4 : i < 4 := by omega
      go_wp2
      go_loopw [12] (fun s12 wr => ∃ (k : Nat) (l : List Nat) (u : Xt), k ≤ 4 ∧ s12 = .int .i64 k ∧ l = fillN (turnF s) s (i * 4 + k) ∧ l.length = 16 ∧ wr = ext (((w.alloc (.cells (nums .u8 s) 149)).alloc (.cells (nums .u8 (zeros 16)) 149)).alloc (.cells (nums .u8 l) 149)) u) (fun s _ => 4 - (intOf s).toNat)
      case atStart => exact ⟨0, l, u, by omega, rfl, HL.out, hll, rfl⟩
      case round =>
        clear hll HL l u
        obtain ⟨k, l, u, hk, rfl, hl, hll, rfl⟩ := hrel
        have HL := Lib.hid hl
        clear hl
        by_cases h4 : k = 4
        · subst h4
          go_wp2
          go_round
          case rel => exact ⟨i + 1, l, _, by omega, by go_num, by rw [HL.out, Nat.add_mul], hll, rfl⟩
          case measure => simp [intOf]; omega
        · have hlk : (k : Int) < 4 := by omega
          have hlk' : k < 4 := by omega
          have hg := nums_getD .u8 (l := l) (i := i * 4 + k) (by omega)
          have hg2 := nums_getD .u8 (l := s) (i := (i + k) % 4 * 4 + k) (by omega)
          have hval : turnF s (i * 4 + k) = s.getD ((i + k) % 4 * 4 + k) 0 := by
            unfold turnF
            rw [show (i * 4 + k) / 4 = i by omega, show (i * 4 + k) % 4 = k by omega]
          have HV := Lib.hid hval
          clear hval
          go_wp2
          go_region
          go_wp2
          go_round
          case rel =>
            refine ⟨k + 1, l.set (i * 4 + k) (turnF s (i * 4 + k)), bump u, by omega, by go_num, ?_, by simp [hll], ?_⟩
            · rw [HL.out]; rfl
            · rw [HV.out, ← nums_set, List.getD_eq_getElem?_getD]
          case measure => simp [intOf]; omega
end Go.Proofs.YtlbpodddokhmaaaGreat.Aes
/-
  AES: the walk of mix.
  Conditions: bytes.
-/
namespace Go.Proofs.YtlbpodddokhmaaaGreat.Aes
open Go.ChangeShapes Go.WideShapes Go.ChangeAt Go.RowKit Go.Deep
/-- A column's product, entry k of row i, its first j terms. -/
def mixJ (s b : List Nat) (i k : Nat) : Nat → Nat
  | 0 => 0
  | j + 1 => mixJ s b i k j ^^^ mulB (s.getD (i * 4 + (k + j) % 4) 0) (b.getD j 0)
def mixF (s b : List Nat) (n : Nat) : Nat := mixJ s b (n / 4) (n % 4) 4
theorem mixJ_lt {s : List Nat} (b : List Nat) (hs : Bytes s) (i k : Nat) : ∀ j, mixJ s b i k j < 256
  | 0 => by unfold mixJ; omega
  | j + 1 => xor_lt (mixJ_lt b hs i k j) (mulB_lt _ (hs _))
theorem arr4 (c : Array Value) (h : c.size = 4) : #[c[0]'(by omega), c[1]'(by omega), c[2]'(by omega), c[3]'(by omega)] = c := by
  obtain ⟨l⟩ := c
  match l, h with
  | [a, b, c, d], _ => rfl
set_option maxRecDepth 100000 in
theorem mix_any (s b : List Nat) (w : World) (hs : s.length = 16) (hsb : Bytes s) (hb : b.length = 4) (hbb : Bytes b) : Calls Tryz.prog 108 #[.agg (nums .u8 s), .agg (nums .u8 b)] w fun e w' => e = .returned (.agg (nums .u8 (tab (mixF s b) 16))) ∧ Below w.heap.size w w' := by
  have HS := Lib.hid hs
  go_enter Tryz.func108, Tryz.ntmps108
  go_upto_region 1 with fail
  refine wp_copy_row rfl rfl rfl 10 5 rfl rfl rfl 149 _ _ _ rfl rfl w.heap.size (w.heap.size + 1 + 1 + 1) (nums .u8 s) (nums .u8 (zeros 16)) 149 149 (.array 4 147) (by simp) rfl (heap_under (heap_under (heap_alloc_last w _))) Tryz.underlying149 rfl (by rw [nums_size, hs]; kernel_rfl) (by rw [nums_size, nums_size, hs]; rfl) (nums_oneCell _ _) (by kernel_rfl) rfl rfl ?_
  go_wp2
  go_loopw [11] (fun s11 wr => ∃ (i : Nat) (l : List Nat) (u : Xt), i ≤ 4 ∧ s11 = .int .i64 i ∧ l = fillN (mixF s b) s (i * 4) ∧ l.length = 16 ∧ wr = ext ((((w.alloc (.cells (nums .u8 s) 149)).alloc (.cells (nums .u8 b) 147)).alloc (.cells (nums .u8 (zeros 16)) 149)).alloc (.cells (nums .u8 l) 149)) u) (fun s _ => 4 - (intOf s).toNat)
  case atStart => exact ⟨0, s, ⟨#[], w.drawn⟩, by omega, rfl, rfl, hs, rfl⟩
  case round =>
    obtain ⟨i, l, u, hi, rfl, hl, hll, rfl⟩ := hrel
    have HL := Lib.hid hl
    clear hl
    by_cases h4 : i = 4
    · subst h4
      go_upto_region 16 with fail
      refine wp_keep_row rfl rfl 47 rfl rfl 149 _ _ _ rfl rfl (w.heap.size + 1 + 1 + 1) (w.heap.size + 1 + 1) (nums .u8 l) (nums .u8 (zeros 16)) 149 149 (.array 4 147) rfl (heap_ext (heap_at (by simp))) (heap_ext (heap_under (heap_at (by simp)))) Tryz.underlying149 rfl (by rw [nums_size, hll]; kernel_rfl) (by rw [nums_size, nums_size, hll]; rfl) (nums_oneCell _ _) rfl rfl (by rw [setRow_ext _ _ _ _ (by simp), setRow_under _ _ _ _ (by simp), setRow_at (by simp)]) ?_
      go_wp2
      refine post_row (w.heap.size + 1 + 1) Tryz.results108 149 (nums .u8 l) (.array 4 147) rfl (heap_ext (heap_under (heap_at (by simp)))) Tryz.underlying149 rfl (by rw [nums_size, hll]; kernel_rfl) rfl ⟨?_, by ((repeat' (with_reducible first | exact Below.refl _ _ | assumption | refine Below.drew ?_ | refine below_drewN ?_ _ | refine Below.setCell ?_ ?_ _ | refine Below.alloc ?_ ?_ _ | refine Below.ext ?_ ?_ _ | refine Below.trans ?_ (Below.mono ‹_› ?_))) <;> first | omega | (simp; done) | (simp; omega))⟩
      rw [HL.out, fillN_full _ HS.out]
    · have hlt : (i : Int) < 4 := by omega
      have hi4 : i < 4 := by omega
      go_wp2
      go_loopw [14] (fun s14 wr => ∃ (k : Nat) (l : List Nat) (u : Xt), k ≤ 4 ∧ s14 = .int .i64 k ∧ l = fillN (mixF s b) s (i * 4 + k) ∧ l.length = 16 ∧ wr = ext ((((w.alloc (.cells (nums .u8 s) 149)).alloc (.cells (nums .u8 b) 147)).alloc (.cells (nums .u8 (zeros 16)) 149)).alloc (.cells (nums .u8 l) 149)) u) (fun s _ => 4 - (intOf s).toNat)
      case atStart => exact ⟨0, l, u, by omega, rfl, HL.out, hll, rfl⟩
      case round =>
        clear hll HL l u
        obtain ⟨k, l, u, hk, rfl, hl, hll, rfl⟩ := hrel
        have HL := Lib.hid hl
        clear hl
        by_cases h4 : k = 4
        · subst h4
          go_wp2
          go_round
          case rel => exact ⟨i + 1, l, _, by omega, by go_num, by rw [HL.out, Nat.add_mul], hll, rfl⟩
          case measure => simp [intOf]; omega
        · have hlk : (k : Int) < 4 := by omega
          have hlk' : k < 4 := by omega
          have hg := nums_getD .u8 (l := l) (i := i * 4 + k) (by omega)
          have hb0 := nums_getD .u8 (l := b) (i := 0) (by omega)
          have hb1 := nums_getD .u8 (l := b) (i := 1) (by omega)
          have hb2 := nums_getD .u8 (l := b) (i := 2) (by omega)
          have hb3 := nums_getD .u8 (l := b) (i := 3) (by omega)
          go_wp2
          rw [arr4 (nums .u8 b) (by rw [nums_size, hb])]
          clear hb0 hb1 hb2 hb3 hg
          go_loopw [22] (fun s22 wr => ∃ (j : Nat) (m : List Nat) (u : Xt), j ≤ 4 ∧ s22 = .int .i64 j ∧ m = l.set (i * 4 + k) (mixJ s b i k j) ∧ m.length = 16 ∧ wr = ext ((((w.alloc (.cells (nums .u8 s) 149)).alloc (.cells (nums .u8 b) 147)).alloc (.cells (nums .u8 (zeros 16)) 149)).alloc (.cells (nums .u8 m) 149)) u) (fun s _ => 4 - (intOf s).toNat)
          case atStart => exact ⟨0, l.set (i * 4 + k) 0, u, by omega, rfl, rfl, by simp [hll], by rw [← nums_set]; rfl⟩
          case round =>
            clear u
            obtain ⟨j, m, u, hj, rfl, hm, hml, rfl⟩ := hrel
            have HM := Lib.hid hm
            clear hm
            by_cases h4 : j = 4
            · subst h4
              go_wp2
              go_round
              case rel =>
                refine ⟨k + 1, m, _, by omega, by go_num, ?_, hml, rfl⟩
                rw [HM.out, HL.out]
                show _ = (fillN (mixF s b) s (i * 4 + k)).set (i * 4 + k) (mixF s b (i * 4 + k))
                unfold mixF
                rw [show (i * 4 + k) / 4 = i by omega, show (i * 4 + k) % 4 = k by omega]
              case measure => simp [intOf]; omega
            · have hlj : (j : Int) < 4 := by omega
              have hlj' : j < 4 := by omega
              have hx : s.getD (i * 4 + (k + j) % 4) 0 < 256 := hsb _
              have hy : b.getD j 0 < 256 := hbb _
              have hmv : m.getD (i * 4 + k) 0 = mixJ s b i k j := by
                rw [HM.out, getD_set _ _ _ _ (by omega), if_pos rfl]
              have hmx := mixJ_lt b hsb i k j
              have hg := nums_getD .u8 (l := m) (i := i * 4 + k) (by omega)
              have hg2 := nums_getD .u8 (l := s) (i := i * 4 + (k + j) % 4) (by omega)
              have hrow := nums_getD .u8 (l := b) (i := j) (by omega)
              rw [hmv] at hg
              clear hmv
              have hnext : mixJ s b i k (j + 1) = mixJ s b i k j ^^^ mulB (s.getD (i * 4 + (k + j) % 4) 0) (b.getD j 0) := rfl
              have HN := Lib.hid hnext
              clear hnext
              generalize s.getD (i * 4 + (k + j) % 4) 0 = x at *
              generalize b.getD j 0 = y at *
              generalize mixJ s b i k j = c at *
              have hidx := fun W => index_nums (P := Tryz.prog) W 147 5 4 j .u8 .i64 (nums .u8 b) _ Tryz.underlying147 Tryz.underlying5 (by kernel_rfl) hlj' hrow
              have HT := Lib.hid fun W0 => (Times_any x y W0 hx hy).mono (R' := fun e w' => e = .returned (.int .u8 ((mulB x y : Nat) : Int)) ∧ w' = W0) fun _ _ h => ⟨h.1, h.2.symm⟩
              clear hrow
              have hw : IntKind.i64.wrap ((k : Int) + (j : Int)) = (k : Int) + (j : Int) := by simp [IntKind.wrap, IntKind.bits, IntKind.signed]; omega
              have htm : ((k : Int) + (j : Int)).tmod 4 = (((k + j) % 4 : Nat) : Int) := by rw [Int.tmod_eq_emod_of_nonneg (by omega)]; omega
              have hr : (k + j) % 4 < 4 := by omega
              generalize (k + j) % 4 = r at *
              have hr4 : (r : Int) < 4 := by omega
              go_wp2_with fail
              go_still_tail 18, (by kernel_rfl)
              still_call (HT.out _)
              repeat still_step
              try refine wpStill_nil ?_
              show wpList _ _ _ _ _ (ext ((((w.alloc (.cells (nums .u8 s) 149)).alloc (.cells (nums .u8 b) 147)).alloc (.cells (nums .u8 (zeros 16)) 149)).alloc (.cells (nums .u8 m) 149)) u).drew
              go_wp2
              go_round
              case rel =>
                refine ⟨j + 1, m.set (i * 4 + k) (c ^^^ mulB x y), bump u, by omega, by go_num, ?_, by simp [hml], ?_⟩
                · rw [HN.out, HM.out, List.set_set]
                · rw [u8_xor_nat _ _ hmx (mulB_lt _ hx), nums_set]
              case measure => simp [intOf]; omega
end Go.Proofs.YtlbpodddokhmaaaGreat.Aes
/-
  AES: the walk of word and tables.
  Conditions: bytes.
-/
namespace Go.Proofs.YtlbpodddokhmaaaGreat.Aes
open Go.ChangeShapes Go.WideShapes Go.ChangeAt Go.RowKit Go.Deep
set_option maxRecDepth 100000 in
theorem word_any (T wd : List Nat) (cb : Nat) (w : World) (hs : wd.length = 4) (hsb : Bytes wd) (hT : TabAt w cb 2 T) : Calls Tryz.prog 132 #[.pointer (some ⟨cb, 0, none⟩), .agg (nums .u8 wd)] w fun e w' => e = .returned (.agg (nums .u8 (tab (thrF T wd) 4))) ∧ Below w.heap.size w w' := by
  have HS := Lib.hid hs
  have htb := hT.1
  have HT := Lib.hid hT.2
  clear hT
  have hb0 := nums_getD .u8 (l := wd) (i := 0) (by omega)
  have hb1 := nums_getD .u8 (l := wd) (i := 1) (by omega)
  have hb2 := nums_getD .u8 (l := wd) (i := 2) (by omega)
  have hb3 := nums_getD .u8 (l := wd) (i := 3) (by omega)
  go_enter Tryz.func132, Tryz.ntmps132
  go_wp2
  rw [arr4 (nums .u8 wd) (by rw [nums_size, hs])]
  clear hb0 hb1 hb2 hb3
  go_loopw [8] (fun s8 wr => ∃ (k : Nat) (l : List Nat) (u : Xt), k ≤ 4 ∧ s8 = .int .i64 k ∧ l = fillN (thrF T wd) wd k ∧ l.length = 4 ∧ wr = ext ((w.alloc (.cells (nums .u8 l) 147)).alloc (.cells (nums .u8 (zeros 4)) 147)) u) (fun s _ => 4 - (intOf s).toNat)
  case atStart => exact ⟨0, wd, ⟨#[], w.drawn⟩, by omega, rfl, rfl, hs, rfl⟩
  case round =>
    obtain ⟨k, l, u, hk, rfl, hl, hll, rfl⟩ := hrel
    have HL := Lib.hid hl
    clear hl
    by_cases h4 : k = 4
    · subst h4
      go_upto_region 6 with fail
      refine wp_keep_last rfl rfl 21 rfl rfl 147 _ _ _ rfl rfl w.heap.size (nums .u8 l) _ _ _ (.array 4 5) rfl (heap_under (heap_alloc_last w _)) Tryz.underlying147 rfl (by rw [nums_size, hll]; kernel_rfl) (by rw [nums_size, nums_size, hll]; rfl) (nums_oneCell _ _) (w.heap.size + 1) (by simp) rfl rfl ?_
      go_wp2
      refine post_last (w.heap.size + 1) (by simp) Tryz.results132 147 (nums .u8 l) (.array 4 5) rfl Tryz.underlying147 rfl (by rw [nums_size, hll]; kernel_rfl) rfl ⟨?_, by ((repeat' (with_reducible first | exact Below.refl _ _ | assumption | refine Below.drew ?_ | refine below_drewN ?_ _ | refine Below.setCell ?_ ?_ _ | refine Below.alloc ?_ ?_ _ | refine Below.ext ?_ ?_ _ | refine Below.trans ?_ (Below.mono ‹_› ?_))) <;> first | omega | (simp; done) | (simp; omega))⟩
      rw [HL.out, fillN_full _ HS.out]
    · have hlk : (k : Int) < 4 := by omega
      have hlk' : k < 4 := by omega
      have hg := nums_getD .u8 (l := l) (i := k) (by omega)
      have hrow := nums_getD .u8 (l := wd) (i := k) (by omega)
      have hx := hsb k
      have hb := HT.out (wd.getD k 0) hx
      have hval : T.getD (wd.getD k 0) 0 = thrF T wd k := rfl
      rw [hval] at hb
      clear hval
      generalize hv : thrF T wd k = v at *
      have HV := Lib.hid hv
      clear hv
      generalize wd.getD k 0 = x at *
      have hx' : (x : Int) < 256 := by omega
      have hidx := fun W => index_nums (P := Tryz.prog) W 147 5 4 k .u8 .i64 (nums .u8 wd) _ Tryz.underlying147 Tryz.underlying5 (by kernel_rfl) hlk' hrow
      clear hrow
      go_wp2
      go_round
      case rel =>
        refine ⟨k + 1, l.set k v, u, by omega, by go_num, ?_, by simp [hll], ?_⟩
        · rw [← HV.out, HL.out]; rfl
        · rw [nums_set]
      case measure => simp [intOf]; omega
theorem zeros_length (n : Nat) : (zeros n).length = n := List.length_replicate
theorem zeros_get (n i : Nat) : (zeros n).getD i 0 = 0 := by
  unfold zeros
  rw [List.getD_eq_getElem?_getD, List.getElem?_replicate]
  split <;> rfl
def pw : Nat → Nat
  | 0 => 1
  | n + 1 => mulB (pw n) 3
def qw : Nat → Nat
  | 0 => 1
  | n + 1 => mulB (qw n) 246
theorem pw_lt : ∀ n, pw n < 256
  | 0 => by unfold pw; omega
  | n + 1 => mulB_lt 3 (pw_lt n)
theorem qw_lt : ∀ n, qw n < 256
  | 0 => by unfold qw; omega
  | n + 1 => mulB_lt 246 (qw_lt n)
/-- How bytes are substituted, n powers laid. -/
def subL : Nat → List Nat
  | 0 => (zeros 256).set 0 (aff 0)
  | n + 1 => (subL n).set (pw (n + 1)) (aff (qw (n + 1)))
theorem subL_length : ∀ n, (subL n).length = 256
  | 0 => by rw [subL, List.length_set, zeros_length]
  | n + 1 => by simp [subL, subL_length n]
theorem subL_bytes : ∀ n, Bytes (subL n)
  | 0 => fun i => by
    unfold subL
    rw [getD_set _ _ _ _ (by rw [zeros_length]; omega)]
    split
    · exact aff_lt (by omega)
    · rw [zeros_get]; omega
  | n + 1 => fun i => by
    unfold subL
    rw [getD_set _ _ _ _ (by rw [subL_length]; exact pw_lt _)]
    split
    · exact aff_lt (qw_lt _)
    · exact subL_bytes n i
/-- The table. -/
def subT : List Nat := subL 255
theorem subT_length : subT.length = 256 := subL_length 255
theorem subT_bytes : Bytes subT := subL_bytes 255
def backL : Nat → List Nat
  | 0 => zeros 256
  | n + 1 => (backL n).set (subT.getD n 0) n
theorem backL_length : ∀ n, (backL n).length = 256
  | 0 => zeros_length 256
  | n + 1 => by simp [backL, backL_length n]
def backT : List Nat := backL 256
theorem backT_length : backT.length = 256 := backL_length 256
attribute [local irreducible] wpList in
set_option maxHeartbeats 1600000 in
set_option maxRecDepth 100000 in
theorem tables_any (w : World) : Calls Tryz.prog 102 #[] w fun e w' => e = .returned (.tuple #[.agg (nums .u8 subT), .agg (nums .u8 backT)]) ∧ Below w.heap.size w w' := by
  have HA := Lib.hid affine_any
  have HM := Lib.hid Times_any
  go_enter Tryz.func102, Tryz.ntmps102
  go_wp2_with fail
  rw [show Tryz.zeroCells141 = nums .u8 (zeros 256) by kernel_rfl]
  refine Calls.mono (HA.out 0 _ (by omega)) ?_
  rintro _ _ ⟨rfl, rfl⟩
  have hz := nums_getD .u8 (l := zeros 256) (i := 0) (by rw [zeros_length]; omega)
  go_wp2_with fail
  go_loopw [2, 3, 8] (fun s2 s3 s8 wr => ∃ i : Nat, i ≤ 255 ∧ s8 = .int .i64 i ∧ s2 = .int .u8 (pw i) ∧ s3 = .int .u8 (qw i) ∧ wr = (w.alloc (.cells (nums .u8 (subL i)) 141)).alloc (.cells (nums .u8 (zeros 256)) 141)) (fun _ _ s _ => 255 - (intOf s).toNat)
  case atStart => exact ⟨0, by omega, rfl, rfl, rfl, by rw [nums_set]; rfl⟩
  case round =>
    clear hz
    obtain ⟨i, hi, rfl, rfl, rfl, rfl⟩ := hrel
    by_cases h255 : i = 255
    · subst h255
      go_upto_region 8 with fail
      apply wp_region_lit
      refine wpList_load_rowTo rfl (some 19) rfl 141 _ rfl w.heap.size rfl (nums .u8 subT) 141 (0, 0) (heap_under (heap_alloc_last w _)) (.array 256 5) Tryz.underlying141 rfl (by rw [nums_size, subT_length]; kernel_rfl) ?_
      rw [show subL 255 = subT from rfl]
      have hst := subT_length
      have hsb := subT_bytes
      generalize hsub : subT = S at *
      have HSUB := Lib.hid hsub
      clear hsub
      go_wp2
      go_loopw [20] (fun s20 wr => ∃ k : Nat, k ≤ 256 ∧ s20 = .int .i64 k ∧ wr = (w.alloc (.cells (nums .u8 S) 141)).alloc (.cells (nums .u8 (backL k)) 141)) (fun s _ => 256 - (intOf s).toNat)
      case atStart => exact ⟨0, by omega, rfl, rfl⟩
      case round =>
        obtain ⟨k, hk, rfl, rfl⟩ := hrel
        by_cases h256 : k = 256
        · subst h256
          rw [show backL 256 = backT from rfl]
          have hbl := backT_length
          go_upto_region 13 with fail
          have hA : ((w.alloc (.cells (nums .u8 S) 141)).alloc (.cells (nums .u8 backT) 141)).heap[w.heap.size]? = some (.cells (nums .u8 S) 141 (0, 0)) := heap_under (heap_alloc_last w _)
          have hB : ((w.alloc (.cells (nums .u8 S) 141)).alloc (.cells (nums .u8 backT) 141)).heap[w.heap.size + 1]? = some (.cells (nums .u8 backT) 141 (0, 0)) := heap_at (by simp)
          have hiA : (Tryz.prog.info? 141).map (·.size) = some (nums .u8 S).size := by rw [nums_size, hst]; kernel_rfl
          have hiB : (Tryz.prog.info? 141).map (·.size) = some (nums .u8 backT).size := by rw [nums_size, hbl]; kernel_rfl
          have hoA : (nums .u8 S).all (·.oneCell') = true := nums_oneCell _ _
          have hoB : (nums .u8 backT).all (·.oneCell') = true := nums_oneCell _ _
          have HR := Lib.hid Tryz.results102
          generalize hW : ((w.alloc (.cells (nums .u8 S) 141)).alloc (.cells (nums .u8 backT) 141)) = W at *
          have HW := Lib.hid hW
          clear hW
          generalize hcb : nums .u8 backT = cb at *
          generalize hcs : nums .u8 S = cs at *
          have HC := Lib.hid (show Ending.returned (.tuple #[.agg cs, .agg cb]) = Ending.returned (.tuple #[.agg (nums .u8 subT), .agg (nums .u8 backT)]) by rw [← hcb, ← hcs, HSUB.out])
          clear hcb hcs
          refine wp_region_any (by kernel_rfl) ?_
          change wpAny _ _ _ _ _ _ _ (World.drew _)
          refine wpAny_ready (rs := [0, 1]) (by kernel_rfl) (by simp) ?_
          refine AllReady.cons rfl (fun K hK => ?_) ?_
          · refine step_load_row rfl (some 29) rfl 141 (.tmp 0) rfl w.heap.size rfl cs 141 (0, 0) hA (.array 256 5) Tryz.underlying141 rfl hiA ?_
            refine hK _ _ ?_
            clear hK K
            refine wpAny_ready (rs := [1, 2]) (by kernel_rfl) (by simp) ?_
            refine AllReady.cons rfl (fun K hK => ?_) ?_
            · refine step_load_row rfl (some 30) rfl 141 (.tmp 1) rfl (w.heap.size + 1) rfl cb 141 (0, 0) hB (.array 256 5) Tryz.underlying141 rfl hiB ?_
              refine hK _ _ ?_
              clear hK K
              refine wpAny_ready (rs := [2]) (by kernel_rfl) (by simp) ?_
              refine AllReady.cons rfl (fun K hK => ?_) AllReady.nil
              refine step_store_same rfl 141 (.tmp 0) (.tmp 29) rfl rfl w.heap.size cs rfl rfl 141 hA hiA hoA ?_
              refine hK _ _ ?_
              clear hK K
              refine wpAny_ready (rs := [3]) (by kernel_rfl) (by simp) ?_
              refine AllReady.cons rfl (fun K hK => ?_) AllReady.nil
              refine step_store_same rfl 141 (.tmp 1) (.tmp 30) rfl rfl (w.heap.size + 1) cb rfl rfl 141 hB hiB hoB ?_
              refine hK _ _ ?_
              clear hK K
              refine wpAny_done (by kernel_rfl) ?_ _
              go_wp2
              refine bodyPost_ret (results_two_rows HR.out _ _ w.heap.size (w.heap.size + 1) 141 141 cs cb (0, 0) (0, 0) (.array 256 5) rfl rfl hA hB Tryz.underlying141 rfl hiA hiB) rfl ⟨HC.out, ?_⟩
              rw [← HW.out]
              exact by ((repeat' (with_reducible first | exact Below.refl _ _ | assumption | refine Below.drew ?_ | refine below_drewN ?_ _ | refine Below.setCell ?_ ?_ _ | refine Below.alloc ?_ ?_ _ | refine Below.ext ?_ ?_ _ | refine Below.trans ?_ (Below.mono ‹_› ?_))) <;> first | omega | (simp; done) | (simp; omega))
            · refine AllReady.cons rfl (fun K hK => ?_) AllReady.nil
              refine step_store_same rfl 141 (.tmp 0) (.tmp 29) rfl rfl w.heap.size cs rfl rfl 141 hA hiA hoA ?_
              refine hK _ _ ?_
              clear hK K
              refine wpAny_ready (rs := [1]) (by kernel_rfl) (by simp) ?_
              refine AllReady.cons rfl (fun K hK => ?_) AllReady.nil
              refine step_load_row rfl (some 30) rfl 141 (.tmp 1) rfl (w.heap.size + 1) rfl cb 141 (0, 0) hB (.array 256 5) Tryz.underlying141 rfl hiB ?_
              refine hK _ _ ?_
              clear hK K
              refine wpAny_ready (rs := [3]) (by kernel_rfl) (by simp) ?_
              refine AllReady.cons rfl (fun K hK => ?_) AllReady.nil
              refine step_store_same rfl 141 (.tmp 1) (.tmp 30) rfl rfl (w.heap.size + 1) cb rfl rfl 141 hB hiB hoB ?_
              refine hK _ _ ?_
              clear hK K
              refine wpAny_done (by kernel_rfl) ?_ _
              go_wp2
              refine bodyPost_ret (results_two_rows HR.out _ _ w.heap.size (w.heap.size + 1) 141 141 cs cb (0, 0) (0, 0) (.array 256 5) rfl rfl hA hB Tryz.underlying141 rfl hiA hiB) rfl ⟨HC.out, ?_⟩
              rw [← HW.out]
              exact by ((repeat' (with_reducible first | exact Below.refl _ _ | assumption | refine Below.drew ?_ | refine below_drewN ?_ _ | refine Below.setCell ?_ ?_ _ | refine Below.alloc ?_ ?_ _ | refine Below.ext ?_ ?_ _ | refine Below.trans ?_ (Below.mono ‹_› ?_))) <;> first | omega | (simp; done) | (simp; omega))
          · refine AllReady.cons rfl (fun K hK => ?_) AllReady.nil
            refine step_load_row rfl (some 30) rfl 141 (.tmp 1) rfl (w.heap.size + 1) rfl cb 141 (0, 0) hB (.array 256 5) Tryz.underlying141 rfl hiB ?_
            refine hK _ _ ?_
            clear hK K
            refine wpAny_ready (rs := [0]) (by kernel_rfl) (by simp) ?_
            refine AllReady.cons rfl (fun K hK => ?_) AllReady.nil
            refine step_load_row rfl (some 29) rfl 141 (.tmp 0) rfl w.heap.size rfl cs 141 (0, 0) hA (.array 256 5) Tryz.underlying141 rfl hiA ?_
            refine hK _ _ ?_
            clear hK K
            refine wpAny_ready (rs := [2]) (by kernel_rfl) (by simp) ?_
            refine AllReady.cons rfl (fun K hK => ?_) AllReady.nil
            refine step_store_same rfl 141 (.tmp 0) (.tmp 29) rfl rfl w.heap.size cs rfl rfl 141 hA hiA hoA ?_
            refine hK _ _ ?_
            clear hK K
            refine wpAny_ready (rs := [3]) (by kernel_rfl) (by simp) ?_
            refine AllReady.cons rfl (fun K hK => ?_) AllReady.nil
            refine step_store_same rfl 141 (.tmp 1) (.tmp 30) rfl rfl (w.heap.size + 1) cb rfl rfl 141 hB hiB hoB ?_
            refine hK _ _ ?_
            clear hK K
            refine wpAny_done (by kernel_rfl) ?_ _
            go_wp2
            refine bodyPost_ret (results_two_rows HR.out _ _ w.heap.size (w.heap.size + 1) 141 141 cs cb (0, 0) (0, 0) (.array 256 5) rfl rfl hA hB Tryz.underlying141 rfl hiA hiB) rfl ⟨HC.out, ?_⟩
            rw [← HW.out]
            exact by ((repeat' (with_reducible first | exact Below.refl _ _ | assumption | refine Below.drew ?_ | refine below_drewN ?_ _ | refine Below.setCell ?_ ?_ _ | refine Below.alloc ?_ ?_ _ | refine Below.ext ?_ ?_ _ | refine Below.trans ?_ (Below.mono ‹_› ?_))) <;> first | omega | (simp; done) | (simp; omega))
        · have hlk : (k : Int) < 256 := by omega
          have hlk' : k < 256 := by omega
          have hrow := nums_getD .u8 (l := S) (i := k) (by omega)
          have hx := hsb k
          have hz := nums_getD .u8 (l := backL k) (i := S.getD k 0) (by rw [backL_length]; omega)
          have hn : backL (k + 1) = (backL k).set (S.getD k 0) k := by rw [← HSUB.out]; rfl
          have HN := Lib.hid hn
          clear hn
          have hm : (k : Int) % 256 = (k : Int) := by omega
          generalize S.getD k 0 = x at *
          have hx' : (x : Int) < 256 := by omega
          have hidx := fun W => index_nums (P := Tryz.prog) W 141 5 256 k .u8 .i64 (nums .u8 S) _ Tryz.underlying141 Tryz.underlying5 (by kernel_rfl) hlk' hrow
          clear hrow
          go_wp2
          go_round
          case rel => exact ⟨k + 1, by omega, by go_num, by rw [HN.out, ← nums_set]⟩
          case measure => simp [intOf]; omega
    · have hlt : (i : Int) < 255 := by omega
      have hp := pw_lt i
      have hq := qw_lt i
      have hp1 := pw_lt (i + 1)
      have hq1 := qw_lt (i + 1)
      have hsl := subL_length i
      have hM1 := fun W => HM.out (pw i) 3 W hp (by omega)
      have hM2 := fun W => HM.out (qw i) 246 W hq (by omega)
      have hA1 := fun W => HA.out (qw (i + 1)) W hq1
      have hz := nums_getD .u8 (l := subL i) (i := pw (i + 1)) (by omega)
      have hs : subL (i + 1) = (subL i).set (pw (i + 1)) (aff (qw (i + 1))) := rfl
      have HSN := Lib.hid hs
      rw [show mulB (pw i) 3 = pw (i + 1) from rfl] at hM1
      rw [show mulB (qw i) 246 = qw (i + 1) from rfl] at hM2
      have H1 := Lib.hid hM1
      have H2 := Lib.hid hM2
      have H3 := Lib.hid hA1
      clear hM1 hM2 hA1 hs hq1
      have hp1' : ((pw (i + 1) : Nat) : Int) < 256 := by omega
      generalize hpd : pw (i + 1) = p at *
      generalize hqd : qw (i + 1) = q at *
      have HP := Lib.hid hpd
      have HQ := Lib.hid hqd
      clear hpd hqd
      go_wp2_with fail
      refine Calls.mono (H1.out _) ?_
      rintro _ _ ⟨rfl, rfl⟩
      go_wp2_with fail
      refine Calls.mono (H2.out _) ?_
      rintro _ _ ⟨rfl, rfl⟩
      go_wp2_with fail
      refine Calls.mono (H3.out _) ?_
      rintro _ _ ⟨rfl, rfl⟩
      go_wp2
      go_round
      case rel => exact ⟨i + 1, by omega, by go_num, by rw [HP.out], by rw [HQ.out], by rw [HSN.out, nums_set]⟩
      case measure => simp [intOf]; omega
end Go.Proofs.YtlbpodddokhmaaaGreat.Aes
/-
  AES: the words of a key: the law in plain lists.
  Conditions: bytes.
-/
namespace Go.Proofs.YtlbpodddokhmaaaGreat.Aes
open Go.ChangeShapes Go.WideShapes Go.ChangeAt Go.RowKit Go.Deep
def keyW (key : List UInt8) (i : Nat) : List Nat := [byteF key (i * 4), byteF key (i * 4 + 1), byteF key (i * 4 + 2), byteF key (i * 4 + 3)]
def subW (T x : List Nat) : List Nat := tab (thrF T x) 4
def rotW (x : List Nat) : List Nat := [x.getD 1 0, x.getD 2 0, x.getD 3 0, x.getD 0 0]
def pow2 : Nat → Nat
  | 0 => 1
  | k + 1 => mulB (pow2 k) 2
theorem pow2_lt : ∀ k, pow2 k < 256
  | 0 => by unfold pow2; omega
  | k + 1 => mulB_lt 2 (pow2_lt k)
/-- The word before, turned. -/
def tempW (T : List Nat) (n i : Nat) (prev : List Nat) : List Nat :=
  if i % n = 0 then (subW T (rotW prev)).set 0 ((subW T (rotW prev)).getD 0 0 ^^^ pow2 ((i - 1) / n))
  else if n = 8 ∧ i % n = 4 then subW T prev else prev
def nextW (T : List Nat) (key : List UInt8) (n i : Nat) (l : List Nat) : List Nat :=
  if i < n then keyW key i else tab (addF (tempW T n i (rowOf l (i - 1))) (rowOf l (i - n))) 4
def wordsL (T : List Nat) (key : List UInt8) (n : Nat) : Nat → List Nat
  | 0 => []
  | i + 1 => wordsL T key n i ++ nextW T key n i (wordsL T key n i)
theorem nextW_length (T : List Nat) (key : List UInt8) (n i : Nat) (l : List Nat) : (nextW T key n i l).length = 4 := by
  unfold nextW
  split
  · rfl
  · exact tab_length _ _
theorem wordsL_length (T : List Nat) (key : List UInt8) (n : Nat) : ∀ i, (wordsL T key n i).length = i * 4
  | 0 => rfl
  | i + 1 => by rw [wordsL, List.length_append, wordsL_length T key n i, nextW_length]; omega
theorem bytes_nil : Bytes [] := fun i => by simp
theorem bytes_cons {a : Nat} {l : List Nat} (h : a < 256) (hl : Bytes l) : Bytes (a :: l) := fun i => by
  cases i with
  | zero => exact h
  | succ i => exact hl i
theorem bytes_append {a b : List Nat} (ha : Bytes a) (hb : Bytes b) : Bytes (a ++ b) := fun i => by
  rw [List.getD_eq_getElem?_getD, List.getElem?_append]
  split
  · exact ha i
  · exact hb _
theorem bytes_four {a b c d : Nat} (ha : a < 256) (hb : b < 256) (hc : c < 256) (hd : d < 256) : Bytes [a, b, c, d] := bytes_cons ha (bytes_cons hb (bytes_cons hc (bytes_cons hd bytes_nil)))
theorem bytes_set {l : List Nat} {i v : Nat} (hl : Bytes l) (hv : v < 256) : Bytes (l.set i v) := fun j => by
  by_cases h : i < l.length
  · rw [getD_set _ _ _ _ h]
    split
    · exact hv
    · exact hl j
  · rw [List.set_eq_of_length_le (by omega)]
    exact hl j
theorem rowOf_bytes {l : List Nat} (h : Bytes l) (i : Nat) : Bytes (rowOf l i) := bytes_four (h _) (h _) (h _) (h _)
theorem subW_bytes {T : List Nat} (hT : Bytes T) (x : List Nat) : Bytes (subW T x) := tab_bytes fun _ _ => hT _
theorem tempW_bytes {T : List Nat} (hT : Bytes T) (n i : Nat) {p : List Nat} (hp : Bytes p) : Bytes (tempW T n i p) := by
  unfold tempW
  split
  · exact bytes_set (subW_bytes hT _) (xor_lt (subW_bytes hT _ _) (pow2_lt _))
  · split
    · exact subW_bytes hT _
    · exact hp
theorem nextW_bytes {T : List Nat} (hT : Bytes T) (key : List UInt8) (n i : Nat) {l : List Nat} (hl : Bytes l) : Bytes (nextW T key n i l) := by
  unfold nextW
  split
  · exact bytes_four (byteF_lt _ _) (byteF_lt _ _) (byteF_lt _ _) (byteF_lt _ _)
  · exact tab_bytes fun _ _ => xor_lt (tempW_bytes hT _ _ (rowOf_bytes hl _) _) (rowOf_bytes hl _ _)
theorem wordsL_bytes {T : List Nat} (hT : Bytes T) (key : List UInt8) (n : Nat) : ∀ i, Bytes (wordsL T key n i)
  | 0 => bytes_nil
  | i + 1 => bytes_append (wordsL_bytes hT key n i) (nextW_bytes hT key n i (wordsL_bytes hT key n i))
theorem pow_step {n i : Nat} (hn : 0 < n) (hi : n ≤ i) (h : i % n = 0) : pow2 ((i + 1 - 1) / n) = mulB (pow2 ((i - 1) / n)) 2 := by
  have e : (i + 1 - 1) / n = (i - 1) / n + 1 := by
    obtain ⟨q, rfl⟩ := Nat.dvd_of_mod_eq_zero h
    have hq : 0 < q := by
      rcases Nat.eq_zero_or_pos q with rfl | h
      · omega
      · exact h
    obtain ⟨r, rfl⟩ : ∃ r, q = r + 1 := ⟨q - 1, by omega⟩
    rw [Nat.add_sub_cancel, Nat.mul_div_cancel_left _ hn]
    have : n * (r + 1) - 1 = n * r + (n - 1) := by rw [Nat.mul_add]; omega
    rw [this, Nat.mul_add_div hn, Nat.div_eq_of_lt (by omega : n - 1 < n), Nat.add_zero]
  rw [e]; rfl
theorem pow_stay {n i : Nat} (hn : 0 < n) (h : ¬ i % n = 0) : (i + 1 - 1) / n = (i - 1) / n := by
  rw [Nat.add_sub_cancel]
  have h1 := Nat.div_add_mod i n
  have h2 := Nat.mod_lt i hn
  have : i - 1 = n * (i / n) + (i % n - 1) := by omega
  have e : (n * (i / n) + (i % n - 1)) / n = i / n := by rw [Nat.mul_add_div hn, Nat.div_eq_of_lt (by omega : i % n - 1 < n), Nat.add_zero]
  rw [this, e]
theorem pow_short {n i : Nat} (h : i < n) : (i + 1 - 1) / n = 0 ∧ (i - 1) / n = 0 := ⟨Nat.div_eq_of_lt (by omega), Nat.div_eq_of_lt (by omega)⟩
end Go.Proofs.YtlbpodddokhmaaaGreat.Aes
/-
  AES: appending a word, a state; a cipher's cells.
  Conditions: bytes.
-/
namespace Go.Proofs.YtlbpodddokhmaaaGreat.Aes
open Go.ChangeShapes Go.WideShapes Go.ChangeAt Go.RowKit Go.Deep Go.Great
/-- A cipher's cells. -/
def ciph (r : Nat) (v : Value) (S K : List Nat) : Array Value := #[.int .i64 r, v] ++ (nums .u8 S ++ nums .u8 K)
theorem rfl_0 (a b : Value) (c : Array Value) : (#[a, b] ++ c)[0]? = some a := by rw [Array.getElem?_append, if_pos (by simp)]; rfl
theorem rfl_1 (a b : Value) (c : Array Value) : (#[a, b] ++ c)[1]? = some b := by rw [Array.getElem?_append, if_pos (by simp)]; rfl
theorem ciph_0 (r : Nat) (v : Value) (S K : List Nat) : (ciph r v S K)[0]? = some (.int .i64 r) := rfl_0 _ _ _
theorem ciph_1 (r : Nat) (v : Value) (S K : List Nat) : (ciph r v S K)[1]? = some v := rfl_1 _ _ _
theorem ciph_sub (r : Nat) (v : Value) (S K : List Nat) {x : Nat} (h : x < S.length) : (ciph r v S K)[2 + x]? = some (.int .u8 ((S.getD x 0 : Nat) : Int)) := by
  rw [ciph, Array.getElem?_append, if_neg (by simp)]
  rw [show 2 + x - (#[Value.int .i64 (r : Int), v]).size = x by simp, Array.getElem?_append, if_pos (by rw [nums_size]; exact h), nums_getD .u8 h]
theorem info4 : (Tryz.prog.info? 147).map (fun i => (i.zero, i.size, i.bytes)) = some (some (.agg (nums .u8 [0, 0, 0, 0])), 4, 4) := by kernel_rfl
/-- The values of a list of bytes. -/
def vals (l : List Nat) : List Value := l.map fun n => Value.int .u8 ((n : Nat) : Int)
theorem owns_mono {w : World} {base base' : Nat} {e : TypeId} {size : Nat} {v : Value} {n : Nat} {xs : List Value} (hb : base' ≤ base) (h : w.ownsRow base e size v n xs) : w.ownsRow base' e size v n xs := by
  obtain ⟨h1, h2⟩ := h
  refine ⟨h1, ?_⟩
  rcases h2 with h2 | ⟨g, cap, cur, a, b, c⟩
  · exact .inl h2
  · exact .inr ⟨g, cap, cur, a, Nat.le_trans hb b, c⟩
theorem vals_nums (l : List Nat) : (nums .u8 l).toList = vals l := by simp [nums, vals]
theorem vals_append (a b : List Nat) : vals (a ++ b) = vals a ++ vals b := by simp [vals]
theorem vals_length (l : List Nat) : (vals l).length = l.length := by simp [vals]
theorem vals_one (l : List Nat) : ∀ u ∈ vals l, u.oneCell' = true := by
  intro u hu
  simp only [vals, List.mem_map] at hu
  obtain ⟨x, -, rfl⟩ := hu
  rfl
theorem vals_get {l : List Nat} {j : Nat} {u : Value} (h : (vals l)[j]? = some u) : (nums .u8 l)[j]? = some u := by
  rw [← vals_nums] at h
  simpa using h
theorem grown_of_below {w w' : World} (h : Below w.heap.size w w') (row : Option Nat) : w.grownBy w' row := by
  obtain ⟨h1, h2, h3, h4, h5⟩ := h
  exact ⟨by simp [*], by simp [*], by simp [*], h4, fun k hk _ => h5 k hk⟩
theorem below_grown {B : Nat} {w wr w' : World} {row : Option Nat} (h : Below B w wr) (hB : B ≤ wr.heap.size) (hg : wr.grownBy w' row) (hrow : ∀ k, row = some k → B ≤ k) : Below B w w' := by
  refine h.trans ⟨by simp [hg.os], by simp [hg.tape], by simp [hg.output], hg.size, fun k hk => hg.block k (by omega) fun e => ?_⟩
  have := hrow k e.symm
  omega
/-- A word is appended. -/
theorem app_word {ops : Array Oper} {rest : List Oper} {o : Oper} {a : Act} {W : World} {Q : Exit → Act → World → Prop} (hgd : o.guard = none) (s x : Operand)
    (ho : o.op = .call { callee := .builtin .append, args := #[s, x], argTypes := #[180, 180] }) (dst : Option Tmp) (hdst : o.dst = dst) (base : Nat) (v : Value) (n : Nat) (xs wd : List Nat) (hs : a.eval s = v)
    (hown : W.ownsRow base 147 4 v n (vals xs)) (b : Nat) (hwl : wd.length = 4) (hx : a.eval x = .slice (some ⟨b, 0, none⟩) 1 1) (t : TypeId) (hb : W.heap[b]? = some (.cells (nums .u8 wd) t (0, 0))) (hn : n ≤ 1000) (hbase : base ≤ W.heap.size)
    (h : ∀ v' w', w'.ownsRow base 147 4 v' (n + 1) (vals (xs ++ wd)) → W.grownBy w' v.ownBlock → wpList Tryz.prog ops Q rest (a.put dst v') w') : wpList Tryz.prog ops Q (o :: rest) a W := by
  cases hq : Tryz.prog.info? 147 with
  | none => have := info4; rw [hq] at this; cases this
  | some inf =>
    have hi := info4
    rw [hq] at hi
    simp only [Option.map_some, Option.some.injEq, Prod.mk.injEq] at hi
    obtain ⟨h1, h2, h3⟩ := hi
    refine wpList_append_own W hgd s x 180 ho base 147 inf (.agg (nums .u8 [0, 0, 0, 0])) 4 4 Tryz.underlying180 hq h1 h2 h3 rfl (by omega) v n (vals xs) hs hown ⟨b, 0, none⟩ 1 1 (vals wd) hx (by rw [vals_length, hwl]) ?_ (vals_one wd) (by simp only [maxLen]; omega) (by omega) hbase ?_
    · intro j u hu
      have e1 : (⟨b, 0, none⟩ : Addr).add j = ⟨b, j, none⟩ := by simp [Addr.add]; omega
      rw [e1, cell_of_row W b j _ _ _ hb]
      exact vals_get hu
    · intro v' w' h5 h6 _
      rw [hdst]
      exact h v' w' (by rw [vals_append]; exact h5) h6
theorem info16 : (Tryz.prog.info? 149).map (fun i => (i.zero, i.size, i.bytes)) = some (some (.agg (nums .u8 (zeros 16))), 16, 16) := by kernel_rfl
/-- A state is appended, in a region that draws its order. -/
theorem step_state {ops : Array Oper} {o : Oper} {a : Act} {W : World} {K : Act → World → Prop} {Q : Exit → Act → World → Prop} {E : Prop} (hgd : o.guard = none) (s x : Operand)
    (ho : o.op = .call { callee := .builtin .append, args := #[s, x], argTypes := #[140, 140] }) (dst : Option Tmp) (hdst : o.dst = dst) (base : Nat) (v : Value) (n : Nat) (xs C : List Nat) (hs : a.eval s = v)
    (hown : W.ownsRow base 149 16 v n (vals xs)) (b : Nat) (hwl : C.length = 16) (hx : a.eval x = .slice (some ⟨b, 0, none⟩) 1 1) (t : TypeId) (hb : W.heap[b]? = some (.cells (nums .u8 C) t (0, 0))) (hn : n ≤ 1000) (hbase : base ≤ W.heap.size)
    (h : ∀ g cap w', w'.ownsRow base 149 16 (.slice (some ⟨g, 0, none⟩) (n + 1) cap) (n + 1) (vals (xs ++ C)) → W.grownBy w' v.ownBlock → g < w'.heap.size → K (a.put dst (.slice (some ⟨g, 0, none⟩) (n + 1) cap)) w') : if Region.wanted o (yielded ops a.tmps) = true then Oper.wp Tryz.prog o a W K Q else E := by
  cases hq : Tryz.prog.info? 149 with
  | none => have := info16; rw [hq] at this; cases this
  | some inf =>
    have hi := info16
    rw [hq] at hi
    simp only [Option.map_some, Option.some.injEq, Prod.mk.injEq] at hi
    obtain ⟨h1, h2, h3⟩ := hi
    refine step_append_lies W hgd s x 140 ho base 149 inf (.agg (nums .u8 (zeros 16))) 16 16 Tryz.underlying140 hq h1 h2 h3 rfl (by omega) v n (vals xs) hs hown ⟨b, 0, none⟩ 1 1 (vals C) hx (by rw [vals_length, hwl]) ?_ (vals_one C) (by omega) (by simp only [maxLen]; omega) (by omega) hbase _ rfl ?_
    · intro j u hu
      have e1 : (⟨b, 0, none⟩ : Addr).add j = ⟨b, j, none⟩ := by simp [Addr.add]; omega
      rw [e1, cell_of_row W b j _ _ _ hb]
      exact vals_get hu
    · intro g cap w' h5 h6 _ h7
      rw [hdst]
      exact h g cap w' (by rw [vals_append]; exact h5) h6 h7
theorem take16 (l : List Nat) (k : Nat) (h : k + 16 ≤ l.length) : l.take (k + 16) = l.take k ++ [l.getD k 0, l.getD (k + 1) 0, l.getD (k + 2) 0, l.getD (k + 3) 0, l.getD (k + 4) 0, l.getD (k + 5) 0, l.getD (k + 6) 0, l.getD (k + 7) 0, l.getD (k + 8) 0, l.getD (k + 9) 0, l.getD (k + 10) 0, l.getD (k + 11) 0, l.getD (k + 12) 0, l.getD (k + 13) 0, l.getD (k + 14) 0, l.getD (k + 15) 0] := by
  rw [List.take_add]
  congr 1
  apply list_ext (by simp; omega)
  intro i hi
  have hi : i < 16 := by simp at hi; omega
  have e : ((l.drop k).take 16).getD i 0 = l.getD (k + i) 0 := by
    simp [List.getD, hi]
  rw [e]
  match i, hi with
  | 0, _ => rfl
  | 1, _ => rfl
  | 2, _ => rfl
  | 3, _ => rfl
  | 4, _ => rfl
  | 5, _ => rfl
  | 6, _ => rfl
  | 7, _ => rfl
  | 8, _ => rfl
  | 9, _ => rfl
  | 10, _ => rfl
  | 11, _ => rfl
  | 12, _ => rfl
  | 13, _ => rfl
  | 14, _ => rfl
  | 15, _ => rfl
  | i + 16, h => exact absurd h (by omega)
theorem cell_grown {w w' : World} {row : Option Nat} (hg : w.grownBy w' row) {a : Addr} (ha : a.block < w.heap.size) (hne : some a.block ≠ row) : w'.cell? a = w.cell? a := World.cell?_of_block (hg.block a.block ha hne)
theorem cell_of_under {w : World} {o : Obj} {g x : Nat} (h : g < w.heap.size) : (w.alloc o).drew.cell? ⟨g, x, none⟩ = w.cell? ⟨g, x, none⟩ := by
  show (w.alloc o).cell? ⟨g, x, none⟩ = _
  exact World.cell?_alloc_lt w o ⟨g, x, none⟩ h
theorem setCell_block (w : World) (b k o : Nat) (v : Value) (h : ¬ b = k) : (w.setCell ⟨b, o, none⟩ v).heap[k]? = w.heap[k]? := by
  simp [World.setCell, Array.getElem?_modify, h]
theorem setCell_words (w : World) (b r : Nat) (v v2 : Value) (S K : List Nat) (t : TypeId) (h : w.heap[b]? = some (.cells (ciph r v S K) t (0, 0))) : (w.setCell ⟨b, 1, none⟩ v2).heap[b]? = some (.cells (ciph r v2 S K) t (0, 0)) := by
  have e : (ciph r v S K).setIfInBounds 1 v2 = ciph r v2 S K := by
    unfold ciph
    generalize nums .u8 S ++ nums .u8 K = c
    obtain ⟨l⟩ := c
    simp
  simp only [World.setCell, Array.getElem?_modify, if_pos, h, Option.map_some, Option.isSome_none, Bool.false_eq_true, if_false, e]
theorem owns_setCell {w : World} {base : Nat} {e : TypeId} {size : Nat} {v : Value} {n : Nat} {xs : List Value} (h : w.ownsRow base e size v n xs) (b o : Nat) (x : Value) (hb : b < base) : (w.setCell ⟨b, o, none⟩ x).ownsRow base e size v n xs := by
  obtain ⟨h1, h2⟩ := h
  refine ⟨h1, ?_⟩
  rcases h2 with h2 | ⟨g, cap, cur, a, c, d, f⟩
  · exact .inl h2
  · exact .inr ⟨g, cap, cur, a, c, by rw [setCell_block _ _ _ _ _ (by omega)]; exact d, f⟩
theorem nums4 (a b c d : Nat) : #[Value.int .u8 ((a : Nat) : Int), .int .u8 ((b : Nat) : Int), .int .u8 ((c : Nat) : Int), .int .u8 ((d : Nat) : Int)] = nums .u8 [a, b, c, d] := rfl
theorem len4 (l : List Nat) (h : l.length = 4) : ∃ a b c d, l = [a, b, c, d] := by
  match l, h with
  | [a, b, c, d], _ => exact ⟨a, b, c, d, rfl⟩
theorem rowOf_getD (s : List Nat) (i k : Nat) (h : k < 4) : (rowOf s i).getD k 0 = s.getD (i * 4 + k) 0 := by
  match k, h with
  | 0, _ => rfl
  | 1, _ => rfl
  | 2, _ => rfl
  | 3, _ => rfl
theorem tabAt_below {w w' : World} {cb off : Nat} {T : List Nat} (h : Below w.heap.size w w') (hlt : cb < w.heap.size) (hT : TabAt w cb off T) : TabAt w' cb off T :=
  ⟨Nat.lt_of_lt_of_le hlt h.size, fun x hx => by rw [h.cell (p := ⟨cb, off + x, none⟩) hlt]; exact hT.2 x hx⟩
end Go.Proofs.YtlbpodddokhmaaaGreat.Aes
/-
  AES: the walk of expand, a key of 16 bytes.
  Conditions: bytes.
-/
namespace Go.Proofs.YtlbpodddokhmaaaGreat.Aes
open Go.ChangeShapes Go.WideShapes Go.ChangeAt Go.RowKit Go.Deep Go.Great
set_option maxHeartbeats 3200000 in
set_option maxRecDepth 100000 in
theorem expand4 (T Bk : List Nat) (key : List UInt8) (cb : Nat) (w : World) (hkey : key.length = 16) (hT : Bytes T) (hTl : T.length = 256) (_hBl : Bk.length = 256)
    (hc : w.heap[cb]? = some (.cells (ciph 10 (.slice none 0 0) T Bk) 143 (0, 0))) : Calls Tryz.prog 103 #[.pointer (some ⟨cb, 0, none⟩), .string (B key)] w fun e w' => e = .returned (.tuple #[]) ∧ ∃ v, w'.heap[cb]? = some (.cells (ciph 10 v T Bk) 143 (0, 0)) ∧ w'.ownsRow w.heap.size 149 16 v (11) (vals (wordsL T key 4 (44))) ∧ Below cb w w' := by
  have hr : w.cell? ⟨cb, 0, none⟩ = some (.int .i64 10) := by rw [cell_of_row w cb 0 _ _ _ hc]; exact ciph_0 _ _ _ _
  have hlt : cb < w.heap.size := World.block_lt_of_cell? w ⟨cb, 0, none⟩ hr
  have HT : TabAt w cb 2 T := ⟨hlt, fun x hx => by rw [cell_of_row w cb _ _ _ _ hc]; exact ciph_sub _ _ _ _ (by omega)⟩
  have HTB := Lib.hid hT
  have HC := Lib.hid hc
  clear hT hc
  go_enter Tryz.func103, Tryz.ntmps103
  go_wp2
  clear hr
  go_loopw [5, 6, 20] (fun s5 s6 s20 wr => ∃ i : Nat, i ≤ 44 ∧ s20 = .int .i64 i ∧ s6 = .int .u8 (pow2 ((i - 1) / 4)) ∧ wr.ownsRow w.heap.size 147 4 s5 i (vals (wordsL T key 4 i)) ∧ Below w.heap.size w wr) (fun _ _ s _ => 44 - (intOf s).toNat)
  case atStart => exact ⟨0, by omega, rfl, by rw [show (0 - 1) / 4 = 0 from Nat.div_eq_of_lt (by omega)]; rfl, World.ownsRow_nil _ _ _ _, Below.refl _ _⟩
  case round =>
    obtain ⟨i, hi, rfl, rfl, hown, hbel⟩ := hrel
    have HOWN := Lib.hid hown
    have HBEL := Lib.hid hbel
    by_cases hend : i = 44
    · have hi2 : 44 ≤ i := by omega
      have hi3 : 44 ≤ (i : Int) := by omega
      clear hend
      have hg : ∃ g cap, u5 = .slice (some ⟨g, 0, none⟩) i cap ∧ w.heap.size ≤ g ∧ g < wr.heap.size ∧ i ≤ cap ∧ (∀ j, j < i * 4 → wr.cell? ⟨g, j, none⟩ = some (.int .u8 (((wordsL T key 4 i).getD j 0 : Nat) : Int))) := by
        rcases hown.2 with ⟨_, h0⟩ | ⟨g, cap, cur, h1, h2, h3, h4, _, _, _⟩
        · omega
        · subst h1
          refine ⟨g, cap, rfl, h2, ?_, h4, fun j hj => ?_⟩
          · exact (hown.lt g rfl).2
          · rw [hown.cellAt j hj]
            simp [vals, List.getD, wordsL_length, hj]
      obtain ⟨g, cap, rfl, hg1, hg2, hcap, hcell⟩ := hg
      have hcb0 : wr.heap[cb]? = some (.cells (ciph 10 (.slice none 0 0) T Bk) 143 (0, 0)) := by rw [hbel.block cb hlt]; exact HC.out
      have HCB0 := Lib.hid hcb0
      have HALL0 := Lib.hid hcell
      clear hown hbel hcell hcb0
      go_wp2
      generalize wr = W1 at *
      go_loopw [10] (fun s10 wr2 => ∃ (j : Nat) (v : Value), j ≤ 11 ∧ s10 = .int .i64 (4 * (j : Int)) ∧ wr2.heap[cb]? = some (.cells (ciph 10 v T Bk) 143 (0, 0)) ∧ wr2.ownsRow W1.heap.size 149 16 v j (vals ((wordsL T key 4 i).take (j * 16))) ∧ (∀ x, x < i * 4 → wr2.cell? ⟨g, x, none⟩ = some (.int .u8 (((wordsL T key 4 i).getD x 0 : Nat) : Int))) ∧ Below cb w wr2 ∧ W1.heap.size ≤ wr2.heap.size) (fun s _ => 44 - (intOf s).toNat)
      case atStart => exact ⟨0, .slice none 0 0, by omega, rfl, HCB0.out, World.ownsRow_nil _ _ _ _, HALL0.out, HBEL.out.mono (by omega), Nat.le_refl _⟩
      case round =>
        obtain ⟨j, v, hj, rfl, hcb, hown, hall, hbel, hsz⟩ := hrel
        have HCB := Lib.hid hcb
        have HOWN2 := Lib.hid hown
        have HALL := Lib.hid hall
        have HBEL2 := Lib.hid hbel
        by_cases hjn : j = 11
        · subst hjn
          clear hcb hown hall hbel
          go_wp2
          refine bodyPost_end0 Tryz.results103 rfl ⟨rfl, v, HCB.out, ?_, HBEL2.out⟩
          have hii : i = 44 := by omega
          rw [← hii]
          have e : (wordsL T key 4 i).take ((11) * 16) = wordsL T key 4 i := List.take_of_length_le (by rw [wordsL_length]; omega)
          rw [← e]
          exact owns_mono HBEL.out.size HOWN2.out
        · have hlj : (4 : Int) * (j : Int) < (i : Int) := by omega
          have hcw : wr.cell? ⟨cb, 1, none⟩ = some v := by rw [cell_of_row wr cb 1 _ _ _ hcb]; exact ciph_1 _ _ _ _
          have hcapI : 44 ≤ (cap : Int) := by omega
          have hf0 := HALL.out (4 * j * 4) (by omega)
          have hf1 := HALL.out (4 * j * 4 + 1) (by omega)
          have hf2 := HALL.out (4 * j * 4 + 2) (by omega)
          have hf3 := HALL.out (4 * j * 4 + 3) (by omega)
          have hf4 := HALL.out (4 * j * 4 + 4) (by omega)
          have hf5 := HALL.out (4 * j * 4 + 5) (by omega)
          have hf6 := HALL.out (4 * j * 4 + 6) (by omega)
          have hf7 := HALL.out (4 * j * 4 + 7) (by omega)
          have hf8 := HALL.out (4 * j * 4 + 8) (by omega)
          have hf9 := HALL.out (4 * j * 4 + 9) (by omega)
          have hf10 := HALL.out (4 * j * 4 + 10) (by omega)
          have hf11 := HALL.out (4 * j * 4 + 11) (by omega)
          have hf12 := HALL.out (4 * j * 4 + 12) (by omega)
          have hf13 := HALL.out (4 * j * 4 + 13) (by omega)
          have hf14 := HALL.out (4 * j * 4 + 14) (by omega)
          have hf15 := HALL.out (4 * j * 4 + 15) (by omega)
          clear hcb hown hall hbel
          have hXL := take16 (wordsL T key 4 i) (4 * j * 4) (by rw [wordsL_length]; omega)
          rw [show 4 * j * 4 + 16 = (j + 1) * 16 by omega, show (wordsL T key 4 i).take (4 * j * 4) = (wordsL T key 4 i).take (j * 16) by rw [show 4 * j * 4 = j * 16 by omega]] at hXL
          generalize (wordsL T key 4 i).getD (4 * j * 4) 0 = x0 at *
          generalize (wordsL T key 4 i).getD (4 * j * 4 + 1) 0 = x1 at *
          generalize (wordsL T key 4 i).getD (4 * j * 4 + 2) 0 = x2 at *
          generalize (wordsL T key 4 i).getD (4 * j * 4 + 3) 0 = x3 at *
          generalize (wordsL T key 4 i).getD (4 * j * 4 + 4) 0 = x4 at *
          generalize (wordsL T key 4 i).getD (4 * j * 4 + 5) 0 = x5 at *
          generalize (wordsL T key 4 i).getD (4 * j * 4 + 6) 0 = x6 at *
          generalize (wordsL T key 4 i).getD (4 * j * 4 + 7) 0 = x7 at *
          generalize (wordsL T key 4 i).getD (4 * j * 4 + 8) 0 = x8 at *
          generalize (wordsL T key 4 i).getD (4 * j * 4 + 9) 0 = x9 at *
          generalize (wordsL T key 4 i).getD (4 * j * 4 + 10) 0 = x10 at *
          generalize (wordsL T key 4 i).getD (4 * j * 4 + 11) 0 = x11 at *
          generalize (wordsL T key 4 i).getD (4 * j * 4 + 12) 0 = x12 at *
          generalize (wordsL T key 4 i).getD (4 * j * 4 + 13) 0 = x13 at *
          generalize (wordsL T key 4 i).getD (4 * j * 4 + 14) 0 = x14 at *
          generalize (wordsL T key 4 i).getD (4 * j * 4 + 15) 0 = x15 at *
          have hw : IntKind.i64.wrap (4 * (j : Int) + 4) = 4 * (j : Int) + 4 := by simp [IntKind.wrap, IntKind.bits, IntKind.signed]; omega
          have hw1 : 4 * (j : Int) + 4 ≤ (cap : Int) := by omega
          have hw2 : ¬ cap = 4 * j := by omega
          have hw3 : (4 * (j : Int)).toNat = 4 * j := by omega
          have hw4 : (4 * (j : Int) + 4).toNat = 4 * j + 4 := by omega
          have hw5 : (0 : Int) ≤ 4 * (j : Int) := by omega
          have hw6 : (0 : Int) ≤ 4 * (j : Int) + 4 := by omega
          have hw7 : 4 * (j : Int) ≤ 4 * (j : Int) + 4 := by omega
          have harr := fun W => run_arrayAt (P := Tryz.prog) (w := W) 149 147 4 (some ⟨g, 4 * j * 4, none⟩) 4 (cap - 4 * j) Tryz.underlying149 (Nat.le_refl _)
          go_wp2
          have HXL := Lib.hid hXL
          clear hXL
          have hownW : ((wr.alloc (.cells (nums .u8 [x0, x1, x2, x3, x4, x5, x6, x7, x8, x9, x10, x11, x12, x13, x14, x15]) 149)).drew).ownsRow W1.heap.size 149 16 v j (vals ((wordsL T key 4 i).take (j * 16))) := HOWN2.out.alloc _
          have HOWNW := Lib.hid hownW
          clear hownW
          have hnb : ∀ k, v.ownBlock = some k → W1.heap.size ≤ k := fun k hk => (HOWN2.out.lt k hk).1
          have HNB := Lib.hid hnb
          clear hnb
          have hcbw : cb < wr.heap.size := by omega
          have hwW1 : w.heap.size ≤ W1.heap.size := HBEL.out.size
          go_region_law (refine step_state rfl (.tmp 111) (.tmp 119) rfl (some 120) rfl W1.heap.size v j ((wordsL T key 4 i).take (j * 16)) [x0, x1, x2, x3, x4, x5, x6, x7, x8, x9, x10, x11, x12, x13, x14, x15] rfl HOWNW.out wr.heap.size rfl rfl 149 (heap_alloc_last wr _) (by omega) (Nat.le_trans hsz (by simp)) ?_; intro g2 cap2 w2 ho2 hg2 hl2; have hcb2 : w2.heap[cb]? = some (.cells (ciph 10 v T Bk) 143 (0, 0)) := (by rw [hg2.block cb (by simp; omega) (fun e => by have := HNB.out cb e.symm; omega)]; exact heap_under HCB.out); have hcl2 : w2.cell? ⟨cb, 1, none⟩ = some v := (by rw [cell_of_row w2 cb 1 _ _ _ hcb2]; exact ciph_1 _ _ _ _); have hfz2 : w2.frozen? ⟨cb, 1, none⟩ = false := (by simp [World.frozen?, hcb2]); have HCB2 := Lib.hid hcb2; have HO2 := Lib.hid ho2; have HG2 := Lib.hid hg2; clear hcb2 ho2 hg2)
          all_goals
            go_wp2
            go_round
            case rel =>
              have hW := ((HBEL2.out.alloc (by omega) (.cells (nums .u8 [x0, x1, x2, x3, x4, x5, x6, x7, x8, x9, x10, x11, x12, x13, x14, x15]) 149)).drew)
              refine ⟨j + 1, .slice (some ⟨g2, 0, none⟩) (j + 1) cap2, by omega, by simp; omega, setCell_words _ _ _ _ _ _ _ _ HCB2.out, ?_, fun x hx => ?_, ?_, ?_⟩
              · rw [HXL.out]
                exact owns_setCell HO2.out cb 1 _ (by omega)
              · have e1 : (w2.setCell ⟨cb, 1, none⟩ (.slice (some ⟨g2, 0, none⟩) (j + 1) cap2)).cell? ⟨g, x, none⟩ = w2.cell? ⟨g, x, none⟩ := World.cell?_of_block (setCell_block _ _ _ _ _ (by show ¬ cb = g; omega))
                rw [e1, cell_grown HG2.out (a := ⟨g, x, none⟩) (by simp; omega) (fun e => by have := HNB.out g e.symm; omega), cell_of_under (by omega)]
                exact HALL.out x hx
              · exact (below_grown hW (by simp; omega) HG2.out (fun k hk => by have := HNB.out k hk; omega)).setCell (Nat.le_refl _) _
              · have := HG2.out.size
                simp at this ⊢
                omega
            case measure => simp [intOf]; omega
    · have hlt2 : (i : Int) < 44 := by omega
      by_cases hin : i < 4
      · have hin' : (i : Int) < (4 : Int) := by omega
        clear hown hbel
        have hk1 : (4 : Int) * (i : Int) + 4 ≤ 16 := by omega
        have hk2 : 4 * i + 4 ≤ 16 := by omega
        have hXl : ((key.drop (4 * i)).take 4).length = 4 := by simp; omega
        obtain ⟨cap, w1, hconv, hcap, hb1, hsz, hcell, -⟩ := bytes_conv (P := Tryz.prog) wr 9 73 5 ((key.drop (4 * i)).take 4) Tryz.underlying9 Tryz.underlying73 Tryz.underlying5
        have hX : ∀ j, j < 4 → w1.cell? ⟨wr.heap.size, j, none⟩ = some (.int .u8 ((byteF key (i * 4 + j) : Nat) : Int)) := fun j hj => by
          rw [hcell j (by omega)]
          simp [byteF, List.getD, show i * 4 + j < key.length by omega, Nat.mul_comm]
        have hx0 := hX 0 (by omega)
        have hx1 := hX 1 (by omega)
        have hx2 := hX 2 (by omega)
        have hx3 := hX 3 (by omega)
        rw [hXl] at hconv hcap
        have HB1 := Lib.hid hb1
        clear hcell hb1 hX hXl
        have harr := run_arrayAt (P := Tryz.prog) (w := w1) 147 5 4 (some ⟨wr.heap.size, 0, none⟩) 4 cap Tryz.underlying147 (Nat.le_refl _)
        have hcap' : (4 : Int) ≤ (cap : Int) := by omega
        go_wp2_with (at_builtin; refine RowKit.Hid.out ?_)
        refine Lib.hid ?_
        rw [nums4]
        have hbW : Below w.heap.size w (w1.alloc (.cells (nums .u8 [byteF key (i * 4), byteF key (i * 4 + 1), byteF key (i * 4 + 2), byteF key (i * 4 + 3)]) 147)) := by
          have := HBEL.out
          have := HB1.out
          have hs1 := HBEL.out.size
          exact (HBEL.out.trans (HB1.out.mono hs1)).alloc (by omega) _
        have howW := HOWN.out.kept (grown_of_below (HB1.out.alloc (by omega) (.cells (nums .u8 [byteF key (i * 4), byteF key (i * 4 + 1), byteF key (i * 4 + 2), byteF key (i * 4 + 3)]) 147)) none) (by cases u5 <;> simp [Value.ownBlock]; split <;> simp)
        refine app_word rfl (.tmp 26) (.tmp 37) rfl (some 38) rfl w.heap.size u5 i (wordsL T key 4 i) (keyW key i) rfl howW (wr.heap.size + 1) rfl rfl 147 (heap_at hsz) (by omega) hbW.size ?_
        intro v' w' hown' hg'
        have HO2 := Lib.hid hown'
        have HB2 := Lib.hid (below_grown hbW hbW.size hg' (fun k hk => (HOWN.out.lt k hk).1))
        clear hown' hg' howW hbW hconv harr hx0 hx1 hx2 hx3 HB1
        go_wp2
        go_round
        case rel =>
          refine ⟨i + 1, by omega, by go_num, ?_, ?_, HB2.out⟩
          · rw [(pow_short hin).1, (pow_short hin).2]
          · rw [wordsL, nextW, if_pos hin]; exact HO2.out
        case measure => simp [intOf]; omega
      · have hin' : ¬ (i : Int) < (4 : Int) := by omega
        have hg : ∃ g cap, u5 = .slice (some ⟨g, 0, none⟩) i cap ∧ w.heap.size ≤ g ∧ g < wr.heap.size ∧ (∀ j, j < i * 4 → wr.cell? ⟨g, j, none⟩ = some (.int .u8 (((wordsL T key 4 i).getD j 0 : Nat) : Int))) := by
          rcases hown.2 with ⟨_, h0⟩ | ⟨g, cap, cur, h1, h2, h3, _, _, _, _⟩
          · omega
          · subst h1
            refine ⟨g, cap, rfl, h2, ?_, fun j hj => ?_⟩
            · exact (hown.lt g rfl).2
            · rw [hown.cellAt j hj]
              simp [vals, List.getD, wordsL_length, hj]
        obtain ⟨g, cap, rfl, hg1, hg2, hcell⟩ := hg
        have HCELL := Lib.hid hcell
        have HBY := Lib.hid (wordsL_bytes HTB.out key 4 i)
        clear hown hbel hcell
        have hp0 := HCELL.out ((i - 1) * 4) (by omega)
        have hp1 := HCELL.out ((i - 1) * 4 + 1) (by omega)
        have hp2 := HCELL.out ((i - 1) * 4 + 2) (by omega)
        have hp3 := HCELL.out ((i - 1) * 4 + 3) (by omega)
        have hi1 : (1 : Int) ≤ (i : Int) := by omega
        have hb0 := HBY.out ((i - 1) * 4)
        have hb1 := HBY.out ((i - 1) * 4 + 1)
        have hb2 := HBY.out ((i - 1) * 4 + 2)
        have hb3 := HBY.out ((i - 1) * 4 + 3)
        have hrow : rowOf (wordsL T key 4 i) (i - 1) = [(wordsL T key 4 i).getD ((i - 1) * 4) 0, (wordsL T key 4 i).getD ((i - 1) * 4 + 1) 0, (wordsL T key 4 i).getD ((i - 1) * 4 + 2) 0, (wordsL T key 4 i).getD ((i - 1) * 4 + 3) 0] := rfl
        generalize (wordsL T key 4 i).getD ((i - 1) * 4) 0 = q0 at *
        generalize (wordsL T key 4 i).getD ((i - 1) * 4 + 1) 0 = q1 at *
        generalize (wordsL T key 4 i).getD ((i - 1) * 4 + 2) 0 = q2 at *
        generalize (wordsL T key 4 i).getD ((i - 1) * 4 + 3) 0 = q3 at *
        have HROW := Lib.hid hrow
        have HQB := Lib.hid (bytes_four hb0 hb1 hb2 hb3)
        clear hrow hb0 hb1 hb2 hb3
        have htm : (i : Int).tmod (4 : Int) = ((i % 4 : Nat) : Int) := by rw [Int.tmod_eq_emod_of_nonneg (by omega)]; rfl
        by_cases hB : i % 4 = 0
        · have hsubW : subW T (rotW [q0, q1, q2, q3]) = [T.getD q1 0, T.getD q2 0, T.getD q3 0, T.getD q0 0] := rfl
          have htemp : tempW T 4 i [q0, q1, q2, q3] = [T.getD q1 0 ^^^ pow2 ((i - 1) / 4), T.getD q2 0, T.getD q3 0, T.getD q0 0] := by rw [tempW, if_pos hB, hsubW]; rfl
          have hT2 : TabAt (wr.alloc (.cells (nums .u8 [q0, q1, q2, q3]) 147)) cb 2 T := tabAt_below ((HBEL.out.alloc HBEL.out.size _)) hlt HT
          have hqb := HQB.out
          have hword := word_any T [q1, q2, q3, q0] cb (wr.alloc (.cells (nums .u8 [q0, q1, q2, q3]) 147)) rfl (bytes_four (hqb 1) (hqb 2) (hqb 3) (hqb 0)) hT2
          have hsub : tab (thrF T [q1, q2, q3, q0]) 4 = [T.getD q1 0, T.getD q2 0, T.getD q3 0, T.getD q0 0] := rfl
          rw [hsub] at hword
          have hr0 := HTB.out q0
          have hr1 := HTB.out q1
          have hr2 := HTB.out q2
          have hr3 := HTB.out q3
          have hpl := pow2_lt ((i - 1) / 4)
          have hstep := pow_step (n := 4) (i := i) (by omega) (by omega) hB
          generalize T.getD q0 0 = r0 at *
          generalize T.getD q1 0 = r1 at *
          generalize T.getD q2 0 = r2 at *
          generalize T.getD q3 0 = r3 at *
          generalize pow2 ((i - 1) / 4) = pq at *
          have hx := u8_xor_nat r1 pq hr1 hpl
          have hxl := xor_lt hr1 hpl
          have htimes := fun W => Times_any pq 2 W hpl (by omega)
          generalize r1 ^^^ pq = t0 at *
          generalize mulB pq 2 = pn at *
          have HRB := Lib.hid (bytes_four hxl hr2 hr3 hr0)
          unfold nums at hword
          simp only [List.map_cons, List.map_nil] at hword
          have HTEMP := Lib.hid htemp
          have HWORD := Lib.hid hword
          have HTIMES := Lib.hid htimes
          have HSTEP := Lib.hid hstep
          have hB2 : (i : Int) % (4 : Int) = 0 := by omega
          clear htm hword htemp hsubW hsub hT2 hr0 hr1 hr2 hr3 hqb htimes hstep hpl hxl
          go_wp2_with fail
          refine Calls.ext HWORD.out fun u => ?_
          go_wp2_with fail
          refine Calls.mono (HTIMES.out _) ?_
          rintro _ _ ⟨rfl, rfl⟩
          go_wp2
          go_loopw [79] (fun s79 wr2 => ∃ (k : Nat) (m : List Nat) (u : Xt), k ≤ 4 ∧ s79 = .int .i64 k ∧ m = fillN (addF [t0, r2, r3, r0] (rowOf (wordsL T key 4 i) (i - 4))) [t0, r2, r3, r0] k ∧ m.length = 4 ∧ wr2 = ext (wr.alloc (.cells (nums .u8 m) 147)) u) (fun s _ => 4 - (intOf s).toNat)
          case atStart => exact ⟨0, [t0, r2, r3, r0], u, by omega, rfl, rfl, rfl, rfl⟩
          case round =>
            clear u
            obtain ⟨k, m, u, hk, rfl, hm, hml, rfl⟩ := hrel
            have HM := Lib.hid hm
            clear hm
            by_cases h4 : k = 4
            · subst h4
              obtain ⟨m0, m1, m2, m3, rfl⟩ := len4 m hml
              clear hml
              unfold nums
              go_wp2_with (at_builtin; refine RowKit.Hid.out ?_)
              refine Lib.hid ?_
              rw [nums4, nums4]
              have hbW : Below w.heap.size w ((ext (wr.alloc (.cells (nums .u8 [m0, m1, m2, m3]) 147)) u).alloc (.cells (nums .u8 [m0, m1, m2, m3]) 147)) := by
                have hs1 := HBEL.out.size
                exact (Proofs.YtlbpodddokhmaaaGreat.Below.ext (HBEL.out.alloc hs1 _) (by simp; omega) u).alloc (by simp; omega) _
              have howW := HOWN.out.kept (grown_of_below ((Proofs.YtlbpodddokhmaaaGreat.Below.ext ((Below.refl wr.heap.size wr).alloc (Nat.le_refl _) (.cells (nums .u8 [m0, m1, m2, m3]) 147)) (by simp) u).alloc (by simp; omega) (.cells (nums .u8 [m0, m1, m2, m3]) 147)) none) (by simp [Value.ownBlock])
              refine app_word rfl (.tmp 96) (.tmp 98) rfl (some 99) rfl w.heap.size (.slice (some ⟨g, 0, none⟩) i cap) i (wordsL T key 4 i) [m0, m1, m2, m3] rfl howW (wr.heap.size + 1 + more u) rfl rfl 147 (heap_at (by simp)) (by omega) hbW.size ?_
              intro v' w' hown' hg'
              have HO2 := Lib.hid hown'
              have HB2 := Lib.hid (below_grown hbW hbW.size hg' (fun k hk => (HOWN.out.lt k hk).1))
              clear hown' hg' howW hbW hp0 hp1 hp2 hp3
              go_wp2
              go_round
              case rel =>
                refine ⟨i + 1, by omega, by go_num, by rw [HSTEP.out], ?_, HB2.out⟩
                rw [wordsL, nextW, if_neg hin, HROW.out, HTEMP.out]
                have e := HM.out
                rw [fillN_full (n := 4) _ rfl] at e
                rw [← e]
                exact HO2.out
              case measure => simp [intOf]; omega
            · have hlk : (k : Int) < 4 := by omega
              have hlk' : k < 4 := by omega
              have hg := nums_getD .u8 (l := m) (i := k) (by omega)
              have hc2 := HCELL.out ((i - 4) * 4 + k) (by omega)
              have hmk : m.getD k 0 = [t0, r2, r3, r0].getD k 0 := by
                rw [HM.out, fillN_get _ _ _ _ (by simp; omega), if_neg (by omega)]
              have hqk : [t0, r2, r3, r0].getD k 0 < 256 := HRB.out k
              have hlk2 : (wordsL T key 4 i).getD ((i - 4) * 4 + k) 0 < 256 := HBY.out _
              have hadd : addF [t0, r2, r3, r0] (rowOf (wordsL T key 4 i) (i - 4)) k = [t0, r2, r3, r0].getD k 0 ^^^ (wordsL T key 4 i).getD ((i - 4) * 4 + k) 0 := by
                unfold addF; rw [rowOf_getD _ _ _ hlk']
              have hx := u8_xor_nat _ _ hqk hlk2
              rw [← hadd] at hx
              rw [hmk] at hg
              have HX := Lib.hid hx
              clear hx hadd hmk
              generalize [t0, r2, r3, r0].getD k 0 = y at *
              generalize (wordsL T key 4 i).getD ((i - 4) * 4 + k) 0 = z at *
              have hni : (4 : Int) ≤ (i : Int) := by omega
              have hge : ∀ h, (nums .u8 m)[k]'h = .int .u8 (y : Int) := fun h => by rw [Array.getElem?_eq_getElem h] at hg; exact Option.some.inj hg
              go_wp2
              go_region
              go_wp2
              go_round
              case rel =>
                refine ⟨k + 1, m.set k (addF [t0, r2, r3, r0] (rowOf (wordsL T key 4 i) (i - 4)) k), bump u, by omega, by go_num, ?_, by simp [hml], ?_⟩
                · rw [HM.out]; rfl
                · rw [HX.out, nums_set]
              case measure => simp [intOf]; omega
        · have hC : ¬ (4 = 8 ∧ i % 4 = 4) := by omega
          have ht2 : ¬ (4 = 8 ∧ i % 4 = 4) := hC
          have HTEMP := Lib.hid (show tempW T 4 i [q0, q1, q2, q3] = [q0, q1, q2, q3] by rw [tempW, if_neg hB, if_neg hC])
          have hB' : ¬ ((i : Int) % (4 : Int) = 0) := by omega
          clear htm
          go_wp2
          go_loopw [79] (fun s79 wr2 => ∃ (k : Nat) (m : List Nat) (u : Xt), k ≤ 4 ∧ s79 = .int .i64 k ∧ m = fillN (addF [q0, q1, q2, q3] (rowOf (wordsL T key 4 i) (i - 4))) [q0, q1, q2, q3] k ∧ m.length = 4 ∧ wr2 = ext (wr.alloc (.cells (nums .u8 m) 147)) u) (fun s _ => 4 - (intOf s).toNat)
          case atStart => exact ⟨0, [q0, q1, q2, q3], ⟨#[], wr.drawn⟩, by omega, rfl, rfl, rfl, rfl⟩
          case round =>
            obtain ⟨k, m, u, hk, rfl, hm, hml, rfl⟩ := hrel
            have HM := Lib.hid hm
            clear hm
            by_cases h4 : k = 4
            · subst h4
              obtain ⟨m0, m1, m2, m3, rfl⟩ := len4 m hml
              clear hml
              unfold nums
              go_wp2_with (at_builtin; refine RowKit.Hid.out ?_)
              refine Lib.hid ?_
              rw [nums4, nums4]
              have hbW : Below w.heap.size w ((ext (wr.alloc (.cells (nums .u8 [m0, m1, m2, m3]) 147)) u).alloc (.cells (nums .u8 [m0, m1, m2, m3]) 147)) := by
                have hs1 := HBEL.out.size
                exact (Proofs.YtlbpodddokhmaaaGreat.Below.ext (HBEL.out.alloc hs1 _) (by simp; omega) u).alloc (by simp; omega) _
              have howW := HOWN.out.kept (grown_of_below ((Proofs.YtlbpodddokhmaaaGreat.Below.ext ((Below.refl wr.heap.size wr).alloc (Nat.le_refl _) (.cells (nums .u8 [m0, m1, m2, m3]) 147)) (by simp) u).alloc (by simp; omega) (.cells (nums .u8 [m0, m1, m2, m3]) 147)) none) (by simp [Value.ownBlock])
              refine app_word rfl (.tmp 96) (.tmp 98) rfl (some 99) rfl w.heap.size (.slice (some ⟨g, 0, none⟩) i cap) i (wordsL T key 4 i) [m0, m1, m2, m3] rfl howW (wr.heap.size + 1 + more u) rfl rfl 147 (heap_at (by simp)) (by omega) hbW.size ?_
              intro v' w' hown' hg'
              have HO2 := Lib.hid hown'
              have HB2 := Lib.hid (below_grown hbW hbW.size hg' (fun k hk => (HOWN.out.lt k hk).1))
              clear hown' hg' howW hbW hp0 hp1 hp2 hp3
              go_wp2
              go_round
              case rel =>
                refine ⟨i + 1, by omega, by go_num, by rw [pow_stay (by omega) hB], ?_, HB2.out⟩
                rw [wordsL, nextW, if_neg hin, HROW.out, HTEMP.out]
                have e := HM.out
                rw [fillN_full (n := 4) _ rfl] at e
                rw [← e]
                exact HO2.out
              case measure => simp [intOf]; omega
            · have hlk : (k : Int) < 4 := by omega
              have hlk' : k < 4 := by omega
              have hg := nums_getD .u8 (l := m) (i := k) (by omega)
              have hc2 := HCELL.out ((i - 4) * 4 + k) (by omega)
              have hmk : m.getD k 0 = [q0, q1, q2, q3].getD k 0 := by
                rw [HM.out, fillN_get _ _ _ _ (by simp; omega), if_neg (by omega)]
              have hqk : [q0, q1, q2, q3].getD k 0 < 256 := HQB.out k
              have hlk2 : (wordsL T key 4 i).getD ((i - 4) * 4 + k) 0 < 256 := HBY.out _
              have hadd : addF [q0, q1, q2, q3] (rowOf (wordsL T key 4 i) (i - 4)) k = [q0, q1, q2, q3].getD k 0 ^^^ (wordsL T key 4 i).getD ((i - 4) * 4 + k) 0 := by
                unfold addF; rw [rowOf_getD _ _ _ hlk']
              have hx := u8_xor_nat _ _ hqk hlk2
              rw [← hadd] at hx
              rw [hmk] at hg
              have HX := Lib.hid hx
              clear hx hadd hmk
              generalize [q0, q1, q2, q3].getD k 0 = y at *
              generalize (wordsL T key 4 i).getD ((i - 4) * 4 + k) 0 = z at *
              have hni : (4 : Int) ≤ (i : Int) := by omega
              have hge : ∀ h, (nums .u8 m)[k]'h = .int .u8 (y : Int) := fun h => by rw [Array.getElem?_eq_getElem h] at hg; exact Option.some.inj hg
              go_wp2
              go_region
              go_wp2
              go_round
              case rel =>
                refine ⟨k + 1, m.set k (addF [q0, q1, q2, q3] (rowOf (wordsL T key 4 i) (i - 4)) k), bump u, by omega, by go_num, ?_, by simp [hml], ?_⟩
                · rw [HM.out]; rfl
                · rw [HX.out, nums_set]
              case measure => simp [intOf]; omega
end Go.Proofs.YtlbpodddokhmaaaGreat.Aes
