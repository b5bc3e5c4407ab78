/-
  AES: the walk of mix.
  Conditions: bytes.
-/
import Derived.Test.YtnnoimikoddbcaaAes3
import Derived.StillTailTactics
namespace Go.Proofs.Ytnnoimikoddbcaa.Aes
open Go.ChangeShapes Go.WideShapes Go.ChangeAt Go.RowKit Go.Deep
/-- A column's product, entry k of row i, its first j terms. -/
def mixJ (s b : List Nat) (i k : Nat) : Nat → Nat
  | 0 => 0
  | j + 1 => mixJ s b i k j ^^^ mulB (s.getD (i * 4 + (k + j) % 4) 0) (b.getD j 0)
def mixF (s b : List Nat) (n : Nat) : Nat := mixJ s b (n / 4) (n % 4) 4
theorem mixJ_lt {s : List Nat} (b : List Nat) (hs : Bytes s) (i k : Nat) : ∀ j, mixJ s b i k j < 256
  | 0 => by unfold mixJ; omega
  | j + 1 => xor_lt (mixJ_lt b hs i k j) (mulB_lt _ (hs _))
theorem arr4 (c : Array Value) (h : c.size = 4) : #[c[0]'(by omega), c[1]'(by omega), c[2]'(by omega), c[3]'(by omega)] = c := by
  obtain ⟨l⟩ := c
  match l, h with
  | [a, b, c, d], _ => rfl
set_option maxRecDepth 100000 in
theorem mix_any (s b : List Nat) (w : World) (hs : s.length = 16) (hsb : Bytes s) (hb : b.length = 4) (hbb : Bytes b) : Calls Try.prog 61 #[.agg (nums .u8 s), .agg (nums .u8 b)] w fun e w' => e = .returned (.agg (nums .u8 (tab (mixF s b) 16))) ∧ Below w.heap.size w w' := by
  have HS := Lib.hid hs
  go_enter Try.func61, Try.ntmps61
  go_upto_region 1 with fail
  refine wp_copy_row rfl rfl rfl 10 5 rfl rfl rfl 95 _ _ _ rfl rfl w.heap.size (w.heap.size + 1 + 1 + 1) (nums .u8 s) (nums .u8 (zeros 16)) 95 95 (.array 4 93) (by simp) rfl (heap_under (heap_under (heap_alloc_last w _))) Try.underlying95 rfl (by rw [nums_size, hs]; kernel_rfl) (by rw [nums_size, nums_size, hs]; rfl) (nums_oneCell _ _) (by kernel_rfl) rfl rfl ?_
  go_wp2
  go_loopw [11] (fun s11 wr => ∃ (i : Nat) (l : List Nat) (u : Xt), i ≤ 4 ∧ s11 = .int .i64 i ∧ l = fillN (mixF s b) s (i * 4) ∧ l.length = 16 ∧ wr = ext ((((w.alloc (.cells (nums .u8 s) 95)).alloc (.cells (nums .u8 b) 93)).alloc (.cells (nums .u8 (zeros 16)) 95)).alloc (.cells (nums .u8 l) 95)) u) (fun s _ => 4 - (intOf s).toNat)
  case atStart => exact ⟨0, s, ⟨#[], w.drawn⟩, by omega, rfl, rfl, hs, rfl⟩
  case round =>
    obtain ⟨i, l, u, hi, rfl, hl, hll, rfl⟩ := hrel
    have HL := Lib.hid hl
    clear hl
    by_cases h4 : i = 4
    · subst h4
      go_upto_region 16 with fail
      refine wp_keep_row rfl rfl 47 rfl rfl 95 _ _ _ rfl rfl (w.heap.size + 1 + 1 + 1) (w.heap.size + 1 + 1) (nums .u8 l) (nums .u8 (zeros 16)) 95 95 (.array 4 93) rfl (heap_ext (heap_at (by simp))) (heap_ext (heap_under (heap_at (by simp)))) Try.underlying95 rfl (by rw [nums_size, hll]; kernel_rfl) (by rw [nums_size, nums_size, hll]; rfl) (nums_oneCell _ _) rfl rfl (by rw [setRow_ext _ _ _ _ (by simp), setRow_under _ _ _ _ (by simp), setRow_at (by simp)]) ?_
      go_wp2
      refine post_row (w.heap.size + 1 + 1) Try.results61 95 (nums .u8 l) (.array 4 93) rfl (heap_ext (heap_under (heap_at (by simp)))) Try.underlying95 rfl (by rw [nums_size, hll]; kernel_rfl) rfl ⟨?_, by ((repeat' (with_reducible first | exact Below.refl _ _ | assumption | refine Below.drew ?_ | refine below_drewN ?_ _ | refine Below.setCell ?_ ?_ _ | refine Below.alloc ?_ ?_ _ | refine Below.ext ?_ ?_ _ | refine Below.trans ?_ (Below.mono ‹_› ?_))) <;> first | omega | (simp; done) | (simp; omega))⟩
      rw [HL.out, fillN_full _ HS.out]
    · have hlt : (i : Int) < 4 := by omega
      have hi4 : i < 4 := by omega
      go_wp2
      go_loopw [14] (fun s14 wr => ∃ (k : Nat) (l : List Nat) (u : Xt), k ≤ 4 ∧ s14 = .int .i64 k ∧ l = fillN (mixF s b) s (i * 4 + k) ∧ l.length = 16 ∧ wr = ext ((((w.alloc (.cells (nums .u8 s) 95)).alloc (.cells (nums .u8 b) 93)).alloc (.cells (nums .u8 (zeros 16)) 95)).alloc (.cells (nums .u8 l) 95)) u) (fun s _ => 4 - (intOf s).toNat)
      case atStart => exact ⟨0, l, u, by omega, rfl, HL.out, hll, rfl⟩
      case round =>
        clear hll HL l u
        obtain ⟨k, l, u, hk, rfl, hl, hll, rfl⟩ := hrel
        have HL := Lib.hid hl
        clear hl
        by_cases h4 : k = 4
        · subst h4
          go_wp2
          go_round
          case rel => exact ⟨i + 1, l, _, by omega, by go_num, by rw [HL.out, Nat.add_mul], hll, rfl⟩
          case measure => simp [intOf]; omega
        · have hlk : (k : Int) < 4 := by omega
          have hlk' : k < 4 := by omega
          have hg := nums_getD .u8 (l := l) (i := i * 4 + k) (by omega)
          have hb0 := nums_getD .u8 (l := b) (i := 0) (by omega)
          have hb1 := nums_getD .u8 (l := b) (i := 1) (by omega)
          have hb2 := nums_getD .u8 (l := b) (i := 2) (by omega)
          have hb3 := nums_getD .u8 (l := b) (i := 3) (by omega)
          go_wp2
          rw [arr4 (nums .u8 b) (by rw [nums_size, hb])]
          clear hb0 hb1 hb2 hb3 hg
          go_loopw [22] (fun s22 wr => ∃ (j : Nat) (m : List Nat) (u : Xt), j ≤ 4 ∧ s22 = .int .i64 j ∧ m = l.set (i * 4 + k) (mixJ s b i k j) ∧ m.length = 16 ∧ wr = ext ((((w.alloc (.cells (nums .u8 s) 95)).alloc (.cells (nums .u8 b) 93)).alloc (.cells (nums .u8 (zeros 16)) 95)).alloc (.cells (nums .u8 m) 95)) u) (fun s _ => 4 - (intOf s).toNat)
          case atStart => exact ⟨0, l.set (i * 4 + k) 0, u, by omega, rfl, rfl, by simp [hll], by rw [← nums_set]; rfl⟩
          case round =>
            clear u
            obtain ⟨j, m, u, hj, rfl, hm, hml, rfl⟩ := hrel
            have HM := Lib.hid hm
            clear hm
            by_cases h4 : j = 4
            · subst h4
              go_wp2
              go_round
              case rel =>
                refine ⟨k + 1, m, _, by omega, by go_num, ?_, hml, rfl⟩
                rw [HM.out, HL.out]
                show _ = (fillN (mixF s b) s (i * 4 + k)).set (i * 4 + k) (mixF s b (i * 4 + k))
                unfold mixF
                rw [show (i * 4 + k) / 4 = i by omega, show (i * 4 + k) % 4 = k by omega]
              case measure => simp [intOf]; omega
            · have hlj : (j : Int) < 4 := by omega
              have hlj' : j < 4 := by omega
              have hx : s.getD (i * 4 + (k + j) % 4) 0 < 256 := hsb _
              have hy : b.getD j 0 < 256 := hbb _
              have hmv : m.getD (i * 4 + k) 0 = mixJ s b i k j := by
                rw [HM.out, getD_set _ _ _ _ (by omega), if_pos rfl]
              have hmx := mixJ_lt b hsb i k j
              have hg := nums_getD .u8 (l := m) (i := i * 4 + k) (by omega)
              have hg2 := nums_getD .u8 (l := s) (i := i * 4 + (k + j) % 4) (by omega)
              have hrow := nums_getD .u8 (l := b) (i := j) (by omega)
              rw [hmv] at hg
              clear hmv
              have hnext : mixJ s b i k (j + 1) = mixJ s b i k j ^^^ mulB (s.getD (i * 4 + (k + j) % 4) 0) (b.getD j 0) := rfl
              have HN := Lib.hid hnext
              clear hnext
              generalize s.getD (i * 4 + (k + j) % 4) 0 = x at *
              generalize b.getD j 0 = y at *
              generalize mixJ s b i k j = c at *
              have hidx := fun W => index_nums (P := Try.prog) W 93 5 4 j .u8 .i64 (nums .u8 b) _ Try.underlying93 Try.underlying5 (by kernel_rfl) hlj' hrow
              have HT := Lib.hid fun W0 => (Times_any x y W0 hx hy).mono (R' := fun e w' => e = .returned (.int .u8 ((mulB x y : Nat) : Int)) ∧ w' = W0) fun _ _ h => ⟨h.1, h.2.symm⟩
              clear hrow
              have hw : IntKind.i64.wrap ((k : Int) + (j : Int)) = (k : Int) + (j : Int) := by simp [IntKind.wrap, IntKind.bits, IntKind.signed]; omega
              have htm : ((k : Int) + (j : Int)).tmod 4 = (((k + j) % 4 : Nat) : Int) := by rw [Int.tmod_eq_emod_of_nonneg (by omega)]; omega
              have hr : (k + j) % 4 < 4 := by omega
              generalize (k + j) % 4 = r at *
              have hr4 : (r : Int) < 4 := by omega
              go_wp2_with fail
              go_still_tail 18, (by kernel_rfl)
              still_call (HT.out _)
              repeat still_step
              try refine wpStill_nil ?_
              show wpList _ _ _ _ _ (ext ((((w.alloc (.cells (nums .u8 s) 95)).alloc (.cells (nums .u8 b) 93)).alloc (.cells (nums .u8 (zeros 16)) 95)).alloc (.cells (nums .u8 m) 95)) u).drew
              go_wp2
              go_round
              case rel =>
                refine ⟨j + 1, m.set (i * 4 + k) (c ^^^ mulB x y), bump u, by omega, by go_num, ?_, by simp [hml], ?_⟩
                · rw [HN.out, HM.out, List.set_set]
                · rw [u8_xor_nat _ _ hmx (mulB_lt _ hx), nums_set]
              case measure => simp [intOf]; omega
end Go.Proofs.Ytnnoimikoddbcaa.Aes
