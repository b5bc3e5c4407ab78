/-
  AES: the walk of its states: add, read, through, turn, mix.
  Conditions: bytes.
-/
import Derived.Test.YtnnoimikoddbcaaAes1
namespace Go.Proofs.Ytnnoimikoddbcaa.Aes
open Go.ChangeShapes Go.WideShapes Go.ChangeAt Go.RowKit Go.Deep
/-- Two lists' sum, entry by entry. -/
def addF (s t : List Nat) (n : Nat) : Nat := s.getD n 0 ^^^ t.getD n 0
set_option maxRecDepth 100000 in
theorem add_any (s t : List Nat) (w : World) (hs : s.length = 16) (ht : t.length = 16) (hsb : Bytes s) (htb : Bytes t) : Calls Try.prog 58 #[.agg (nums .u8 s), .agg (nums .u8 t)] w fun e w' => e = .returned (.agg (nums .u8 (tab (addF s t) 16))) ∧ Below w.heap.size w w' := by
  have HS := Lib.hid hs
  have HT := Lib.hid ht
  go_enter Try.func58, Try.ntmps58
  go_wp2
  go_loopw [7] (fun s7 wr => ∃ (i : Nat) (l : List Nat) (u : Xt), i ≤ 4 ∧ s7 = .int .i64 i ∧ l = fillN (addF s t) s (i * 4) ∧ l.length = 16 ∧ wr = ext (((w.alloc (.cells (nums .u8 l) 95)).alloc (.cells (nums .u8 t) 95)).alloc (.cells (nums .u8 (List.replicate 16 0)) 95)) u) (fun s _ => 4 - (intOf s).toNat)
  case atStart => exact ⟨0, s, ⟨#[], w.drawn⟩, by omega, rfl, rfl, hs, rfl⟩
  case round =>
    obtain ⟨i, l, u, hi, rfl, hl, hll, rfl⟩ := hrel
    by_cases h4 : i = 4
    · subst h4
      have HL := Lib.hid hl
      clear hl
      go_upto_region 10 with fail
      refine wp_keep_last rfl rfl 28 rfl rfl 95 _ _ _ rfl rfl w.heap.size (nums .u8 l) _ _ _ (.array 4 93) rfl (heap_under (heap_under (heap_alloc_last w _))) Try.underlying95 rfl (by rw [nums_size, hll]; kernel_rfl) (by rw [nums_size, nums_size, hll]; rfl) (nums_oneCell _ _) (w.heap.size + 1 + 1) (by simp) rfl rfl ?_
      go_wp2
      refine post_last (w.heap.size + 1 + 1) (by simp) Try.results58 95 (nums .u8 l) (.array 4 93) rfl Try.underlying95 rfl (by rw [nums_size, hll]; kernel_rfl) rfl ⟨?_, by ((repeat' (with_reducible first | exact Below.refl _ _ | assumption | refine Below.drew ?_ | refine below_drewN ?_ _ | refine Below.setCell ?_ ?_ _ | refine Below.alloc ?_ ?_ _ | refine Below.ext ?_ ?_ _ | refine Below.trans ?_ (Below.mono ‹_› ?_))) <;> first | omega | (simp; done) | (simp; omega))⟩
      rw [HL.out, fillN_full _ HS.out]
    · have hlt : (i : Int) < 4 := by omega
      have hi4 : i < 4 := by omega
      have HL := Lib.hid hl
      clear hl
      go_wp2
      go_loopw [10] (fun s10 wr => ∃ (k : Nat) (l : List Nat) (u : Xt), k ≤ 4 ∧ s10 = .int .i64 k ∧ l = fillN (addF s t) s (i * 4 + k) ∧ l.length = 16 ∧ wr = ext (((w.alloc (.cells (nums .u8 l) 95)).alloc (.cells (nums .u8 t) 95)).alloc (.cells (nums .u8 (List.replicate 16 0)) 95)) u) (fun s _ => 4 - (intOf s).toNat)
      case atStart => exact ⟨0, l, u, by omega, rfl, HL.out, hll, rfl⟩
      case round =>
        clear hll HL l u
        obtain ⟨k, l, u, hk, rfl, hl, hll, rfl⟩ := hrel
        have HL := Lib.hid hl
        by_cases h4 : k = 4
        · subst h4
          clear hl
          go_wp2
          go_round
          case rel => exact ⟨i + 1, l, _, by omega, by go_num, by rw [HL.out, Nat.add_mul], hll, rfl⟩
          case measure => simp [intOf]; omega
        · have hlk : (k : Int) < 4 := by omega
          have hlk' : k < 4 := by omega
          have hg := nums_getD .u8 (l := l) (i := i * 4 + k) (by omega)
          have hg2 := nums_getD .u8 (l := t) (i := i * 4 + k) (by omega)
          clear hl
          go_wp2
          go_region
          go_wp2
          go_round
          case rel =>
            have hls : l.getD (i * 4 + k) 0 = s.getD (i * 4 + k) 0 := by
              rw [HL.out, fillN_get _ _ _ _ (by rw [HS.out]; omega), if_neg (by omega)]
            have hval : bits .xor .u8 ((l.getD (i * 4 + k) 0 : Nat) : Int) ((t.getD (i * 4 + k) 0 : Nat) : Int) = ((addF s t (i * 4 + k) : Nat) : Int) := by
              rw [hls]; exact u8_xor_nat _ _ (hsb _) (htb _)
            rw [List.getD_eq_getElem?_getD, List.getD_eq_getElem?_getD] at hval
            refine ⟨k + 1, l.set (i * 4 + k) (addF s t (i * 4 + k)), bump u, by omega, by go_num, ?_, by simp [hll], ?_⟩
            · rw [HL.out]; rfl
            · rw [hval, nums_set]
              rfl
          case measure => simp [intOf]; omega
def zeros (n : Nat) : List Nat := List.replicate n 0
def byteF (l : List UInt8) (n : Nat) : Nat := (l.getD n 0).toNat
theorem byteF_lt (l : List UInt8) (n : Nat) : byteF l n < 256 := (l.getD n 0).toNat_lt
set_option maxRecDepth 100000 in
theorem read_any (b : List UInt8) (w : World) (hb : b.length = 16) : Calls Try.prog 57 #[.string (B b)] w fun e w' => e = .returned (.agg (nums .u8 (tab (byteF b) 16))) ∧ Below w.heap.size w w' := by
  go_enter Try.func57, Try.ntmps57
  go_wp2
  go_loopw [5] (fun s5 wr => ∃ (i : Nat) (l : List Nat) (u : Xt), i ≤ 16 ∧ s5 = .int .i64 i ∧ l = fillN (byteF b) (zeros 16) i ∧ l.length = 16 ∧ wr = ext ((w.alloc (.cells (nums .u8 (zeros 16)) 95)).alloc (.cells (nums .u8 l) 95)) u) (fun s _ => 16 - (intOf s).toNat)
  case atStart => exact ⟨0, zeros 16, ⟨#[], w.drawn⟩, by omega, rfl, rfl, rfl, rfl⟩
  case round =>
    obtain ⟨i, l, u, hi, rfl, hl, hll, rfl⟩ := hrel
    have HL := Lib.hid hl
    clear hl
    by_cases h16 : i = 16
    · subst h16
      go_upto_region 7 with fail
      refine wp_keep_row rfl rfl 18 rfl rfl 95 _ _ _ rfl rfl (w.heap.size + 1) w.heap.size (nums .u8 l) (nums .u8 (zeros 16)) 95 95 (.array 4 93) rfl (heap_ext (heap_at (by simp))) (heap_ext (heap_under (heap_alloc_last w _))) Try.underlying95 rfl (by rw [nums_size, hll]; kernel_rfl) (by rw [nums_size, nums_size, hll]; rfl) (nums_oneCell _ _) rfl rfl (by rw [setRow_ext _ _ _ _ (by simp; omega), setRow_under _ _ _ _ lt_of_last, World.setRow_alloc_new]) ?_
      go_wp2
      refine post_row w.heap.size Try.results57 95 (nums .u8 l) (.array 4 93) rfl (heap_ext (heap_under (heap_alloc_last w _))) Try.underlying95 rfl (by rw [nums_size, hll]; kernel_rfl) rfl ⟨?_, by ((repeat' (with_reducible first | exact Below.refl _ _ | assumption | refine Below.drew ?_ | refine below_drewN ?_ _ | refine Below.setCell ?_ ?_ _ | refine Below.alloc ?_ ?_ _ | refine Below.ext ?_ ?_ _ | refine Below.trans ?_ (Below.mono ‹_› ?_))) <;> first | omega | (simp; done) | (simp; omega))⟩
      rw [HL.out, fillN_full _ (by rfl)]
    · have hlt : (i : Int) < 16 := by omega
      have hlt2 : i < 16 := by omega
      have hg := nums_getD .u8 (l := l) (i := i) (by omega)
      have hdm : i / 4 * 4 + i % 4 = i := by omega
      go_wp2
      go_region
      go_wp2
      go_round
      case rel =>
        have hval : ((b[i].toNat : Nat) : Int) = ((byteF b i : Nat) : Int) := by simp [byteF, List.getD, hb, hlt2]
        refine ⟨i + 1, l.set i (byteF b i), bump u, by omega, by go_num, ?_, by simp [hll], ?_⟩
        · rw [HL.out]; rfl
        · rw [hval, nums_set]
      case measure => simp [intOf]; omega
end Go.Proofs.Ytnnoimikoddbcaa.Aes
