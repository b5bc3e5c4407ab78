/-
  AES: the walk of its states: through, turn, mix.
  Conditions: bytes.
-/
import Derived.Test.YtnnoimikoddbcaaAes2
namespace Go.Proofs.Ytnnoimikoddbcaa.Aes
open Go.ChangeShapes Go.WideShapes Go.ChangeAt Go.RowKit Go.Deep
/-- A state put through a table. -/
def thrF (T s : List Nat) (n : Nat) : Nat := T.getD (s.getD n 0) 0
/-- A table lies in memory. -/
def TabAt (w : World) (tb off : Nat) (T : List Nat) : Prop := tb < w.heap.size ∧ ∀ x, x < 256 → w.cell? ⟨tb, off + x, none⟩ = some (.int .u8 ((T.getD x 0 : Nat) : Int))
/-- A state's row. -/
def rowOf (s : List Nat) (i : Nat) : List Nat := [s.getD (i * 4) 0, s.getD (i * 4 + 1) 0, s.getD (i * 4 + 2) 0, s.getD (i * 4 + 3) 0]
theorem rowOf_eq (s : List Nat) (i : Nat) : #[Value.int .u8 ((s[i * 4]?.getD 0 : Nat) : Int), .int .u8 ((s[i * 4 + 1]?.getD 0 : Nat) : Int), .int .u8 ((s[i * 4 + 2]?.getD 0 : Nat) : Int), .int .u8 ((s[i * 4 + 3]?.getD 0 : Nat) : Int)] = nums .u8 (rowOf s i) := by
  simp [nums, rowOf]
theorem row_get (s : List Nat) (i k : Nat) (h : k < 4) : (nums .u8 (rowOf s i))[k]? = some (.int .u8 ((s.getD (i * 4 + k) 0 : Nat) : Int)) := by
  match k, h with
  | 0, _ => rfl
  | 1, _ => rfl
  | 2, _ => rfl
  | 3, _ => rfl
set_option maxRecDepth 100000 in
theorem through_any (T s : List Nat) (tb off : Nat) (w : World) (hs : s.length = 16) (hsb : Bytes s) (hT : TabAt w tb off T) : Calls Try.prog 59 #[.agg (nums .u8 s), .pointer (some ⟨tb, off, none⟩)] w fun e w' => e = .returned (.agg (nums .u8 (tab (thrF T s) 16))) ∧ Below w.heap.size w w' := by
  have HS := Lib.hid hs
  have htb := hT.1
  have HT := Lib.hid hT.2
  clear hT
  go_enter Try.func59, Try.ntmps59
  go_wp2
  go_loopw [8] (fun s8 wr => ∃ (i : Nat) (l : List Nat) (u : Xt), i ≤ 4 ∧ s8 = .int .i64 i ∧ l = fillN (thrF T s) s (i * 4) ∧ l.length = 16 ∧ wr = ext ((w.alloc (.cells (nums .u8 l) 95)).alloc (.cells (nums .u8 (zeros 16)) 95)) u) (fun s _ => 4 - (intOf s).toNat)
  case atStart => exact ⟨0, s, ⟨#[], w.drawn⟩, by omega, rfl, rfl, hs, rfl⟩
  case round =>
    obtain ⟨i, l, u, hi, rfl, hl, hll, rfl⟩ := hrel
    have HL := Lib.hid hl
    by_cases h4 : i = 4
    · subst h4
      clear hl
      go_upto_region 10 with fail
      refine wp_keep_last rfl rfl 29 rfl rfl 95 _ _ _ rfl rfl w.heap.size (nums .u8 l) _ _ _ (.array 4 93) rfl (heap_under (heap_alloc_last w _)) Try.underlying95 rfl (by rw [nums_size, hll]; kernel_rfl) (by rw [nums_size, nums_size, hll]; rfl) (nums_oneCell _ _) (w.heap.size + 1) (by simp) rfl rfl ?_
      go_wp2
      refine post_last (w.heap.size + 1) (by simp) Try.results59 95 (nums .u8 l) (.array 4 93) rfl Try.underlying95 rfl (by rw [nums_size, hll]; kernel_rfl) rfl ⟨?_, by ((repeat' (with_reducible first | exact Below.refl _ _ | assumption | refine Below.drew ?_ | refine below_drewN ?_ _ | refine Below.setCell ?_ ?_ _ | refine Below.alloc ?_ ?_ _ | refine Below.ext ?_ ?_ _ | refine Below.trans ?_ (Below.mono ‹_› ?_))) <;> first | omega | (simp; done) | (simp; omega))⟩
      rw [HL.out, fillN_full _ HS.out]
    · have hlt : (i : Int) < 4 := by omega
      have hi4 : i < 4 := by omega
      clear hl
      have hg0 := nums_getD .u8 (l := l) (i := i * 4) (by omega)
      have hg1 := nums_getD .u8 (l := l) (i := i * 4 + 1) (by omega)
      have hg2 := nums_getD .u8 (l := l) (i := i * 4 + 2) (by omega)
      have hg3 := nums_getD .u8 (l := l) (i := i * 4 + 3) (by omega)
      go_wp2
      have e : ∀ j, j < 4 → l.getD (i * 4 + j) 0 = s.getD (i * 4 + j) 0 := fun j hj => by
        rw [HL.out, fillN_get _ _ _ _ (by rw [HS.out]; omega), if_neg (by omega)]
      have e0 := e 0 (by omega)
      have e1 := e 1 (by omega)
      have e2 := e 2 (by omega)
      have e3 := e 3 (by omega)
      simp only [List.getD_eq_getElem?_getD, Nat.add_zero] at e0 e1 e2 e3
      rw [e0, e1, e2, e3, rowOf_eq]
      clear e0 e1 e2 e3 e
      go_loopw [14] (fun s14 wr => ∃ (k : Nat) (l : List Nat) (u : Xt), k ≤ 4 ∧ s14 = .int .i64 k ∧ l = fillN (thrF T s) s (i * 4 + k) ∧ l.length = 16 ∧ wr = ext ((w.alloc (.cells (nums .u8 l) 95)).alloc (.cells (nums .u8 (zeros 16)) 95)) u) (fun s _ => 4 - (intOf s).toNat)
      case atStart => exact ⟨0, l, u, by omega, rfl, HL.out, hll, rfl⟩
      case round =>
        clear hg0 hg1 hg2 hg3 hll HL l u
        obtain ⟨k, l, u, hk, rfl, hl, hll, rfl⟩ := hrel
        have HL := Lib.hid hl
        clear hl
        by_cases h4 : k = 4
        · subst h4
          go_wp2
          go_round
          case rel => exact ⟨i + 1, l, _, by omega, by go_num, by rw [HL.out, Nat.add_mul], hll, rfl⟩
          case measure => simp [intOf]; omega
        · have hlk : (k : Int) < 4 := by omega
          have hlk' : k < 4 := by omega
          have hrow : (nums .u8 (rowOf s i))[k]? = some (.int .u8 ((s.getD (i * 4 + k) 0 : Nat) : Int)) := row_get s i k hlk'
          have hg := nums_getD .u8 (l := l) (i := i * 4 + k) (by omega)
          have hx := hsb (i * 4 + k)
          have hb := HT.out (s.getD (i * 4 + k) 0) hx
          have hval : T.getD (s.getD (i * 4 + k) 0) 0 = thrF T s (i * 4 + k) := rfl
          rw [hval] at hb
          clear hval
          generalize hv : thrF T s (i * 4 + k) = v at *
          have HV := Lib.hid hv
          clear hv
          generalize s.getD (i * 4 + k) 0 = x at *
          have hx' : (x : Int) < 256 := by omega
          have hidx := fun W => index_nums (P := Try.prog) W 93 5 4 k .u8 .i64 (nums .u8 (rowOf s i)) _ Try.underlying93 Try.underlying5 (by kernel_rfl) hlk' hrow
          clear hrow
          go_wp2
          go_region
          go_wp2
          go_round
          case rel =>
            refine ⟨k + 1, l.set (i * 4 + k) v, bump u, by omega, by go_num, ?_, by simp [hll], ?_⟩
            · rw [← HV.out, HL.out]; rfl
            · rw [nums_set]
          case measure => simp [intOf]; omega
/-- A state, each row turned by its number. -/
def turnF (s : List Nat) (n : Nat) : Nat := s.getD ((n / 4 + n % 4) % 4 * 4 + n % 4) 0
set_option maxRecDepth 100000 in
theorem turn_any (s : List Nat) (w : World) (hs : s.length = 16) : Calls Try.prog 60 #[.agg (nums .u8 s), .int .i64 1] w fun e w' => e = .returned (.agg (nums .u8 (tab (turnF s) 16))) ∧ Below w.heap.size w w' := by
  have HS := Lib.hid hs
  go_enter Try.func60, Try.ntmps60
  go_upto_region 1 with fail
  refine wp_copy_row rfl rfl rfl 8 5 rfl rfl rfl 95 _ _ _ rfl rfl w.heap.size (w.heap.size + 1 + 1) (nums .u8 s) (nums .u8 (zeros 16)) 95 95 (.array 4 93) (by simp) rfl (heap_under (heap_alloc_last w _)) Try.underlying95 rfl (by rw [nums_size, hs]; kernel_rfl) (by rw [nums_size, nums_size, hs]; rfl) (nums_oneCell _ _) (by kernel_rfl) rfl rfl ?_
  go_wp2
  go_loopw [9] (fun s9 wr => ∃ (i : Nat) (l : List Nat) (u : Xt), i ≤ 4 ∧ s9 = .int .i64 i ∧ l = fillN (turnF s) s (i * 4) ∧ l.length = 16 ∧ wr = ext (((w.alloc (.cells (nums .u8 s) 95)).alloc (.cells (nums .u8 (zeros 16)) 95)).alloc (.cells (nums .u8 l) 95)) u) (fun s _ => 4 - (intOf s).toNat)
  case atStart => exact ⟨0, s, ⟨#[], w.drawn⟩, by omega, rfl, rfl, hs, rfl⟩
  case round =>
    obtain ⟨i, l, u, hi, rfl, hl, hll, rfl⟩ := hrel
    have HL := Lib.hid hl
    clear hl
    by_cases h4 : i = 4
    · subst h4
      go_upto_region 11 with fail
      refine wp_keep_row rfl rfl 31 rfl rfl 95 _ _ _ rfl rfl (w.heap.size + 1 + 1) (w.heap.size + 1) (nums .u8 l) (nums .u8 (zeros 16)) 95 95 (.array 4 93) rfl (heap_ext (heap_at (by simp))) (heap_ext (heap_under (heap_at (by simp)))) Try.underlying95 rfl (by rw [nums_size, hll]; kernel_rfl) (by rw [nums_size, nums_size, hll]; rfl) (nums_oneCell _ _) rfl rfl (by rw [setRow_ext _ _ _ _ (by simp), setRow_under _ _ _ _ (by simp), setRow_at (by simp)]) ?_
      go_wp2
      refine post_row (w.heap.size + 1) Try.results60 95 (nums .u8 l) (.array 4 93) rfl (heap_ext (heap_under (heap_at (by simp)))) Try.underlying95 rfl (by rw [nums_size, hll]; kernel_rfl) rfl ⟨?_, by ((repeat' (with_reducible first | exact Below.refl _ _ | assumption | refine Below.drew ?_ | refine below_drewN ?_ _ | refine Below.setCell ?_ ?_ _ | refine Below.alloc ?_ ?_ _ | refine Below.ext ?_ ?_ _ | refine Below.trans ?_ (Below.mono ‹_› ?_))) <;> first | omega | (simp; done) | (simp; omega))⟩
      rw [HL.out, fillN_full _ HS.out]
    · have hlt : (i : Int) < 4 := by omega
      have hi4 : i < 4 := by omega
      go_wp2
      go_loopw [12] (fun s12 wr => ∃ (k : Nat) (l : List Nat) (u : Xt), k ≤ 4 ∧ s12 = .int .i64 k ∧ l = fillN (turnF s) s (i * 4 + k) ∧ l.length = 16 ∧ wr = ext (((w.alloc (.cells (nums .u8 s) 95)).alloc (.cells (nums .u8 (zeros 16)) 95)).alloc (.cells (nums .u8 l) 95)) u) (fun s _ => 4 - (intOf s).toNat)
      case atStart => exact ⟨0, l, u, by omega, rfl, HL.out, hll, rfl⟩
      case round =>
        clear hll HL l u
        obtain ⟨k, l, u, hk, rfl, hl, hll, rfl⟩ := hrel
        have HL := Lib.hid hl
        clear hl
        by_cases h4 : k = 4
        · subst h4
          go_wp2
          go_round
          case rel => exact ⟨i + 1, l, _, by omega, by go_num, by rw [HL.out, Nat.add_mul], hll, rfl⟩
          case measure => simp [intOf]; omega
        · have hlk : (k : Int) < 4 := by omega
          have hlk' : k < 4 := by omega
          have hg := nums_getD .u8 (l := l) (i := i * 4 + k) (by omega)
          have hg2 := nums_getD .u8 (l := s) (i := (i + k) % 4 * 4 + k) (by omega)
          have hval : turnF s (i * 4 + k) = s.getD ((i + k) % 4 * 4 + k) 0 := by
            unfold turnF
            rw [show (i * 4 + k) / 4 = i by omega, show (i * 4 + k) % 4 = k by omega]
          have HV := Lib.hid hval
          clear hval
          go_wp2
          go_region
          go_wp2
          go_round
          case rel =>
            refine ⟨k + 1, l.set (i * 4 + k) (turnF s (i * 4 + k)), bump u, by omega, by go_num, ?_, by simp [hll], ?_⟩
            · rw [HL.out]; rfl
            · rw [HV.out, ← nums_set, List.getD_eq_getElem?_getD]
          case measure => simp [intOf]; omega
end Go.Proofs.Ytnnoimikoddbcaa.Aes
